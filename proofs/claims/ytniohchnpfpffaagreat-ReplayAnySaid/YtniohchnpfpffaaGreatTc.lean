/- Plain laws: an account that is set,right or not. No statement of its own. -/
import Derived.Test.YtniohchnpfpffaaGreatSd
set_option linter.unusedSimpArgs false
set_option linter.unusedVariables false
namespace Go.Proofs.YtniohchnpfpffaaGreat.Pure
open Go.Vk Go.Am Go.Pg Go.Sort Go.Proofs.YtniohchnpfpffaaGreat.Y
theorem Set_b(B:FB){n:Int}(hn:1≤n∧n≤32){a:FA}{b:Bool}(h:funds_Account_right.f a=some b):funds_Book_Set.f B n a=some (if b=true then setA B n a else B,if b=true then 0 else 1):=by
 unfold funds_Book_Set.f
 rw[node_eq,(ztg n).2 hn,Option.bind_some,Bool.not_true,Bool.not_false,cond_true]
 rw[show funds_Account_right.f (a.1,(a.2.1,(a.2.2.1,(a.2.2.2.1,a.2.2.2.2))))=some b from h,Option.bind_some,Option.bind_some]
 cases b with
 |true=>
  rw[Bool.not_true,cond_false,show funds_Book_set.f B n (a.1,(a.2.1,(a.2.2.1,(a.2.2.2.1,a.2.2.2.2))))=_ from set_eq B n a,Option.bind_some]
  rfl
 |false=>rfl
end Go.Proofs.YtniohchnpfpffaaGreat.Pure
