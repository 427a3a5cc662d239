/- Plain laws: what Roll does to a purse. No statement of its own. -/
import Derived.Test.YtniohchnpfpffaaGreatRd
set_option linter.unusedSimpArgs false
set_option linter.unusedVariables false
namespace Go.Proofs.YtniohchnpfpffaaGreat.Pure
open Go.Vk Go.Am Go.Pg Go.Sort Go.Proofs.YtniohchnpfpffaaGreat.Y
/-! ### the journal -/
def ziv(j:Jn):Jn:=(j.1,(j.2.1+1,(j.2.2.1,j.2.2.2++ [[]])))
def zye(j:Jn)(e:Int×List Leg):Jn:=if chk e.1 e.2≠0 then j else if j.1.length=16384 then j else if e.2.any (far j.2.2.1)then j else zcg j e
structure JI(p m:Nat)(j:Jn):Prop where
 per:j.2.1=(p:Int)
 mov:j.2.2.2.length=p+1
 p31:p≤31
 list:j.1.length≤m
theorem zyd{p m:Nat}{j:Jn}(h:JI p m j)(e:Int×List Leg):JI p (m+1) (zye j e):=by
 obtain⟨h1,h2,h3,h4⟩:=h
 have h0:JI p (m+1) j:=⟨h1,h2,h3,by omega⟩
 unfold zye
 split
 ·exact h0
 ·split
  ·exact h0
  ·split
   ·exact h0
   ·exact⟨h1,by simp only[zcg,List.length_set];exact h2,h3,by simp only[zcg,List.length_append,List.length_singleton];omega⟩
/-! ### what expires -/
end Go.Proofs.YtniohchnpfpffaaGreat.Pure
