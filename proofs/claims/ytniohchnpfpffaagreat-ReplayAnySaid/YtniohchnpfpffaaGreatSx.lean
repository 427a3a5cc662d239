/- slices.Sort of ints as a call,from the kit's contract. No statement of its own. -/
import Derived.Test.YtniohchnpfpffaaGreatPh
import Derived.Test.YtniohchnpfpffaaGreatSA
import Derived.Shelf.SortM.SortNone
namespace Go.Proofs.YtniohchnpfpffaaGreat.Y
open Go.Am Go.Vk Go.Proofs
theorem Sx [Dr]:zab Tryz.prog 141 zj2:=zxx (fun blk off cap zs w hH hb hl=>AnyM.slices_Sort_int Sv.sortI blk off cap zs w hH hb hl) (fun w=>AnyM.slices_Sort_int_none Sv.sortI none 0 w)
end Go.Proofs.YtniohchnpfpffaaGreat.Y
