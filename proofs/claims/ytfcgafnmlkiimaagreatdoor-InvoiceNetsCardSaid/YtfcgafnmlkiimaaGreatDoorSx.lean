/- slices.Sort of ints as a call,from the kit's contract. No statement of its own. -/
import Derived.Test.YtfcgafnmlkiimaaGreatDoorPh
import Derived.Test.YtfcgafnmlkiimaaGreatDoorSA
import Derived.Shelf.SortM.SortNone
namespace Go.Proofs.YtfcgafnmlkiimaaGreatDoor.Y
open Go.Am Go.Vk Go.Proofs
theorem Sx [Dr]:HdlOk Tryz.prog 111 sortIHdl:=sortI_ok (fun blk off cap zs w hH hb hl=>AnyM.slices_Sort_int Sv.sortI blk off cap zs w hH hb hl) (fun w=>AnyM.slices_Sort_int_none Sv.sortI none 0 w)
end Go.Proofs.YtfcgafnmlkiimaaGreatDoor.Y
