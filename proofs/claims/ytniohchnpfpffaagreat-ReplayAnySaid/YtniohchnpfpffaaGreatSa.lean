/- Plain laws: what is searched in order; paths,limits,the program's and the document's. No statement of its own. -/
import Derived.Test.YtniohchnpfpffaaGreatRf
set_option linter.unusedSimpArgs false
set_option linter.unusedVariables false
namespace Go.Proofs.YtniohchnpfpffaaGreat.Pure
open Go.Vk Go.Am Go.Pg Go.Sort Go.Proofs.YtniohchnpfpffaaGreat.Y
def zrv(n:Int):Bool:=decide (1≤n) && decide (n≤32)
theorem ztg(n:Int):zrv n=true↔1≤n∧n≤32:=by simp[zrv]
theorem node_eq(n:Int):funds_node.f n=some (zrv n):=by
 unfold funds_node.f zrv
 rw[show decide (n≥1)=decide (1≤n)from rfl]
 cases decide (1≤n)<;>rfl
/-! ### paths -/
/-! ### limits -/
end Go.Proofs.YtniohchnpfpffaaGreat.Pure
