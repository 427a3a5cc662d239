/- Plain laws: what an entry that is made does to the accounts of one node. No statement of its own. -/
import Derived.Test.YtniohchnpfpffaaGreatSc
set_option linter.unusedSimpArgs false
set_option linter.unusedVariables false
namespace Go.Proofs.YtniohchnpfpffaaGreat.Pure
open Go.Vk Go.Am Go.Pg Go.Sort Go.Proofs.YtniohchnpfpffaaGreat.Y
end Go.Proofs.YtniohchnpfpffaaGreat.Pure
