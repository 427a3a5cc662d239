/- slices.Sort of ints as a call,from the kit's contract. No statement of its own. -/
import Derived.Test.YtniohchnpfpffaaGreatPh
import Derived.Test.YtniohchnpfpffaaGreatSA
import Derived.Shelf.SortM.SortNone
namespace Go.Proofs.YtniohchnpfpffaaGreat.Y
open Go.Am Go.Vk Go.Proofs
end Go.Proofs.YtniohchnpfpffaaGreat.Y
