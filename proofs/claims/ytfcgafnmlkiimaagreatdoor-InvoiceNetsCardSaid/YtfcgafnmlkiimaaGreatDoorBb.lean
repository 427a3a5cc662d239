/- Functions that the kernel can run,each below a plain one. No statement of its own. -/
import Derived.Test.YtfcgafnmlkiimaaGreatDoorFa
import Derived.Test.YtfcgafnmlkiimaaGreatDoorSA
import Derived.KernelRfl
set_option linter.unusedSimpArgs false
set_option linter.unusedVariables false
namespace Go.Proofs.YtfcgafnmlkiimaaGreatDoor.Pure
open Go.Vk Go.Am Go.Sort Go.Proofs Go.Proofs.YtfcgafnmlkiimaaGreatDoor.Y
structure le{X:Type}(x y:Option X):Prop where
 h: ∀b,x=some b→y=some b
theorem le_rfl{X:Type}{x:Option X}:le x x:=⟨fun _ h=>h⟩
theorem le_bind{X Z:Type}{x x':Option X}{f f':X→Option Z}(h:le x x')(k: ∀a,le (f a) (f' a)):le (x.bind f) (x'.bind f'):=⟨fun b hb=>by
 obtain⟨a,h1,h2⟩:=Option.bind_eq_some_iff.1 hb
 exact Option.bind_eq_some_iff.2 ⟨a,h.h a h1,(k a).h b h2⟩⟩
theorem le_bif{X:Type}{c:Bool}{x x' y y':Option X}(h:le x x')(k:le y y'):le (bif c then x else y) (bif c then x' else y'):=by
 cases c
 ·exact k
 ·exact h
theorem le_optS{E X:Type}{o:Option E}{f f':E→Option X}{g g':Option X}(h: ∀e,le (f e) (f' e))(k:le g g'):le (optS o f g) (optS o f' g'):=by
 cases o with
 |none=>exact k
 |some e=>exact h e
def loopC{S B:Type}(f:S→Option (S⊕B))(s:S):Option B:=loopN f 200 s
theorem le_loopN{S B:Type}{f f':S→Option (S⊕B)}(h: ∀s,le (f s) (f' s)): ∀n s,le (loopN f n s) (loopN f' n s)
 |0,s=>⟨fun b hb=>by simp[loopN]at hb⟩
 |n+1,s=>⟨fun b hb=>by
  simp only[loopN]at hb⊢
  cases hf:f s with
  |none=>simp[hf]at hb
  |some o=>
   rw[(h s).h o hf]
   rw[hf]at hb
   cases o with
   |inl s'=>exact(le_loopN h n s').h b hb
   |inr b'=>exact hb⟩
theorem le_loop{S B:Type}{f f':S→Option (S⊕B)}{s:S}(h: ∀s,le (f s) (f' s)):le (loopC f s) (loopO f' s):=⟨fun b hb=>loopO_of ((le_loopN h 200 s).h b hb)⟩
theorem le_ordF{E S B:Type}{f f':Option E→S→Option (S⊕B)}{l:List E}{s:S}(h: ∀o s,le (f o s) (f' o s)):le (ordF f l s) (ordF f' l s):=by
 induction l generalizing s with
 |nil=>
  constructor
  intro b hb
  simp only[ordF]at hb⊢
  cases hf:f none s with
  |none=>rw[hf]at hb;cases hb
  |some o=>rw[hf]at hb;rw[(h none s).h o hf];exact hb
 |cons x l ih=>
  constructor
  intro b hb
  simp only[ordF]at hb⊢
  cases hf:f (some x) s with
  |none=>rw[hf]at hb;cases hb
  |some o=>
   rw[hf]at hb
   rw[(h (some x) s).h o hf]
   cases o with
   |inl s'=>exact ih.h b hb
   |inr b'=>exact hb
def ordC{E X:Type}(xs:List E)(F:List E→Option X):Option X:=bif Nat.ble xs.length 1 then F xs else none
theorem perm_le1{E:Type}{xs l:List E}(h:xs.length≤1)(hp:l.Perm xs):l=xs:=by
 match xs,h with
 | [],_=>exact hp.eq_nil
 | [x],_=>exact List.perm_singleton.1 hp
theorem le_ordC{E X:Type}{xs:List E}{F F':List E→Option X}(h: ∀l,le (F l) (F' l)):le (ordC xs F) (anyOrd xs F'):=⟨fun b hb=>by
 obtain⟨h1,h2⟩:=bif_some hb
 exact anyOrd_of fun l hp=>by
  rw[perm_le1 (Nat.le_of_ble_eq_true h1) hp]
  exact(h xs).h b h2⟩
def sortC{T:Ty}(f:T.Den→T.Den→Option Int)(xs:List T.Den):Option (List T.Den):=bif Nat.ble xs.length 1 then some xs else none
theorem le_sort{T:Ty}{f:T.Den→T.Den→Option Int}(cf:T.Den→T.Den→Int)(hf: ∀x y,f x y=some (cf x y))(hO:SWO (ltOf cf))(xs:List T.Den):le (sortC (T:=T) f xs) (sortM (T:=T) f xs):=⟨fun b hb=>by
 obtain⟨h1,h2⟩:=bif_some hb
 have hl:=Nat.le_of_ble_eq_true h1
 obtain⟨ys,k1,k2,_⟩:=sortM_spec (T:=T) (f:=f) (xs:=xs) cf hf hO (by omega)
 rw[k1,perm_le1 hl k2]
 exact h2⟩
def fnz:List Int→Int
 | []=>0
 |x::r=>if x≠0 then x else fnz r
theorem or_from(l:List Int)(hl:l.length<4611686018427387904): ∀(m k:Nat),k+m=l.length→
  (loopO (cmp_Or_int.l1 l) (k:Int)).bind (fun b4=>(match b4 with| .inl e2=>some e2| .inr e3=>some (0:Int)))=some (fnz (l.drop k))
 |0,k,h=>by
  obtain rfl:k=l.length:=by omega
  rw[loopO_eq]
  have:cmp_Or_int.l1 l (l.length:Int)=some (.inr (.inr ())):=by unfold cmp_Or_int.l1;simp
  rw[this]
  simp[fnz]
 |m+1,k,h=>by
  have hk:k<l.length:=by omega
  rw[loopO_eq,List.drop_eq_getElem_cons hk]
  by_cases h0:l[k]=0
  ·have:cmp_Or_int.l1 l (k:Int)=some (.inl ((k+1:Nat):Int)):=by
    unfold cmp_Or_int.l1
    rw[Go.Pg.ilt hk,Go.Pg.nn,cond_true,Bool.and_self,cond_true,Go.Pg.at_ l k hk,h0,Go.Pg.wrS k (by omega)]
    rfl
   rw[this]
   simp only[fnz,h0,ne_eq,not_true_eq_false,if_false]
   exact or_from l hl m (k+1) (by omega)
  ·have hb:(l[k] !=0)=true:=by simp[h0]
   have:cmp_Or_int.l1 l (k:Int)=some (.inr (.inl l[k])):=by
    unfold cmp_Or_int.l1
    rw[Go.Pg.ilt hk,Go.Pg.nn,cond_true,Bool.and_self,cond_true,Go.Pg.at_ l k hk,hb]
    rfl
   rw[this]
   simp[fnz,h0]
theorem orL_eq(l:List Int)(hl:l.length<4611686018427387904):cmp_Or_int.f l=some (fnz l):=or_from l hl l.length 0 (by omega)
theorem fnz_neg(x y:Int)(r:List Int):fnz (cmpI x y::r)<0↔x<y∨(x=y∧fnz r<0):=by
 rw[show fnz (cmpI x y::r)=if cmpI x y≠0 then cmpI x y else fnz r from rfl]
 have c1:cmpI x y<0↔x<y:=by unfold cmpI;split<;>(try split)<;>omega
 have c2:cmpI x y=0↔x=y:=by unfold cmpI;split<;>(try split)<;>omega
 by_cases h:cmpI x y=0
 ·have:=c2.1 h
  subst this
  simp[h]
 ·have h': ¬x=y:=fun e=>h (c2.2 e)
  simp[h,c1,h']
abbrev R6:=Int×Int×Int×Int×Int×Int
def ord6(a b:R6):Int:=fnz [cmpI a.1 b.1,cmpI a.2.1 b.2.1,cmpI a.2.2.1 b.2.2.1,cmpI a.2.2.2.1 b.2.2.2.1,cmpI a.2.2.2.2.1 b.2.2.2.2.1]
theorem order_eq(a b:R6):usage_Row_order.f a b=some (ord6 a b):=by
 unfold usage_Row_order.f ord6
 simp only[compare_eq,Option.bind_some]
 rw[orL_eq _ (by simp)]
 rfl
def lt6(a b:R6):Prop:=a.1<b.1∨(a.1=b.1∧(a.2.1<b.2.1∨(a.2.1=b.2.1∧(a.2.2.1<b.2.2.1∨(a.2.2.1=b.2.2.1∧(a.2.2.2.1<b.2.2.2.1∨(a.2.2.2.1=b.2.2.2.1∧a.2.2.2.2.1<b.2.2.2.2.1)))))))
theorem ord6_neg(a b:R6):ord6 a b<0↔lt6 a b:=by
 unfold ord6 lt6
 simp only[fnz_neg]
 simp[fnz]
theorem swo6:SWO (Go.Proofs.ltOf ord6):=by
 refine⟨fun x=> ?_,fun x y z h1 h2=> ?_,fun x y z h1 h2=> ?_⟩
 ·simp only[Go.Proofs.ltOf,decide_eq_false_iff_not,ord6_neg];unfold lt6;omega
 ·simp only[Go.Proofs.ltOf,decide_eq_true_eq,ord6_neg]at*;unfold lt6 at*;omega
 ·simp only[Go.Proofs.ltOf,decide_eq_false_iff_not,ord6_neg]at*
  unfold lt6 at*
  omega
def ordK(a b:Int×Int×Int):Int:=fnz [cmpI a.1 b.1,cmpI a.2.2 b.2.2]
theorem cmpM_eq(a b:Int×Int×Int):tier_Merge_1.f a b=some (ordK a b):=by
 unfold tier_Merge_1.f ordK
 simp only[compare_eq,Option.bind_some]
 rw[orL_eq _ (by simp)]
 rfl
def ltK(a b:Int×Int×Int):Prop:=a.1<b.1∨(a.1=b.1∧a.2.2<b.2.2)
theorem ordK_neg(a b:Int×Int×Int):ordK a b<0↔ltK a b:=by
 unfold ordK ltK
 simp only[fnz_neg]
 simp[fnz]
theorem swoK:SWO (Go.Proofs.ltOf ordK):=by
 refine⟨fun x=> ?_,fun x y z h1 h2=> ?_,fun x y z h1 h2=> ?_⟩
 ·simp only[Go.Proofs.ltOf,decide_eq_false_iff_not,ordK_neg];unfold ltK;omega
 ·simp only[Go.Proofs.ltOf,decide_eq_true_eq,ordK_neg]at*;unfold ltK at*;omega
 ·simp only[Go.Proofs.ltOf,decide_eq_false_iff_not,ordK_neg]at*
  unfold ltK at*
  omega
theorem sort_usage_Row_order(xs:List R6):le (sortC (T:=(.pair (.int .i64) (.pair (.int .i64) (.pair (.int .i64) (.pair (.int .i64) (.pair (.int .i64) (.int .i64))))))) usage_Row_order.f xs) (sortM (T:=(.pair (.int .i64) (.pair (.int .i64) (.pair (.int .i64) (.pair (.int .i64) (.pair (.int .i64) (.int .i64))))))) usage_Row_order.f xs):=le_sort (T:=(.pair (.int .i64) (.pair (.int .i64) (.pair (.int .i64) (.pair (.int .i64) (.pair (.int .i64) (.int .i64))))))) ord6 order_eq swo6 xs
theorem sort_tier_Merge_1(xs:List (Int×Int×Int)):le (sortC (T:=(.pair (.int .i64) (.pair (.int .i64) (.int .i64)))) tier_Merge_1.f xs) (sortM (T:=(.pair (.int .i64) (.pair (.int .i64) (.int .i64)))) tier_Merge_1.f xs):=le_sort (T:=(.pair (.int .i64) (.pair (.int .i64) (.int .i64)))) ordK cmpM_eq swoK xs
end Go.Proofs.YtfcgafnmlkiimaaGreatDoor.Pure
