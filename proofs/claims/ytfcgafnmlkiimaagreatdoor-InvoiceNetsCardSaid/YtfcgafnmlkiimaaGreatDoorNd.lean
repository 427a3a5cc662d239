/- Plain laws: a journal's accounts,in order,the program's and the document's. No statement of its own. -/
import Derived.Test.YtfcgafnmlkiimaaGreatDoorNc
set_option linter.unusedSimpArgs false
set_option linter.unusedVariables false
namespace Go.Proofs.YtfcgafnmlkiimaaGreatDoor.Pure
open Go.Vk Go.Am Go.Pg Go.Sort Go.Proofs.YtfcgafnmlkiimaaGreatDoor.Y
theorem flatL{α β:Type}(f:α→List β)(b:Nat)(h: ∀x,(f x).length≤b): ∀l:List α,(l.flatMap f).length≤b*l.length
 | []=>by simp
 |x::l=>by
  have:=flatL f b h l
  have:=h x
  rw[List.flatMap_cons,List.length_append,List.length_cons,Nat.mul_add]
  omega
end Go.Proofs.YtfcgafnmlkiimaaGreatDoor.Pure
