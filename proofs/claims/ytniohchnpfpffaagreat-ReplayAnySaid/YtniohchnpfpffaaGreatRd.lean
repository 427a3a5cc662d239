/- Plain laws: what is in a list; lists cut short; a book's accounts. No statement of its own. -/
import Derived.Test.YtniohchnpfpffaaGreatRc
set_option linter.unusedSimpArgs false
set_option linter.unusedVariables false
namespace Go.Proofs.YtniohchnpfpffaaGreat.Pure
open Go.Vk Go.Am Go.Pg Go.Sort Go.Proofs.YtniohchnpfpffaaGreat.Y
def leftA(a:FA):Int:=a.1+a.2.1 - a.2.2.1 - a.2.2.2.1 - a.2.2.2.2
structure OkA(a:FA):Prop where
 t:0≤a.1∧a.1≤9007199254740992
 c:0≤a.2.1∧a.2.1≤9007199254740992
 e:0≤a.2.2.1∧a.2.2.1≤9007199254740992
 u:0≤a.2.2.2.1∧a.2.2.2.1≤9007199254740992
 h:0≤a.2.2.2.2∧a.2.2.2.2≤9007199254740992
 tc:a.1+a.2.1≤9007199254740992
 left:0≤leftA a
abbrev V0:FA:=(0,0,0,0,0)
def setA(B:FB)(n:Int)(a:FA):FB:=if a=V0 then zlm KI VA B n else zb0 KI VA B n a
theorem set_eq(B:FB)(n:Int)(a:FA):funds_Book_set.f B n a=some (setA B n a,()):=by
 unfold funds_Book_set.f setA
 obtain⟨t,c,e,u,h⟩:=a
 by_cases hz:((t,c,e,u,h):FA)=V0
 ·injection hz with h1 h2
  injection h2 with h2 h3
  injection h3 with h3 h4
  injection h4 with h4 h5
  subst h1 h2 h3 h4 h5
  rfl
 ·have e1:((t==0) && ((c==0) && ((e==0) && ((u==0) && ((h==0) && true)))))=false:=by
   rcases Bool.eq_false_or_eq_true ((t==0) && ((c==0) && ((e==0) && ((u==0) && ((h==0) && true)))))with h1|h1
   ·simp only[Bool.and_eq_true,beq_iff_eq]at h1
    obtain⟨rfl,rfl,rfl,rfl,rfl,_⟩:=h1
    exact absurd rfl hz
   ·exact h1
  simp only
  rw[e1,cond_false,if_neg hz]
end Go.Proofs.YtniohchnpfpffaaGreat.Pure
