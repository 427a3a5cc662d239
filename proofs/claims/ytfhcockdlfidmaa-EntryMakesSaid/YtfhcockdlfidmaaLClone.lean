/- The kit's bytes.Clone, laid at this seat; no statement of its own. -/
import Derived.Test.YtfhcockdlfidmaaProg
import Derived.Shelf.SlLaysK
import Derived.KernelRfl
namespace Go.Proofs.Ytfhcockdlfidmaa.Y
open Go.Proofs
set_option maxRecDepth 100000
def cloneL_ren : Go.Shelf.Ren := ⟨fun | 4 => 53 | n => n, fun | 4 => 4 | 5 => 5 | 22 => 49 | n => n, fun | n => n⟩
theorem cloneL : SlLaysK.n4 Try.prog cloneL_ren where
  mixed := by kernel_rfl
  f4 := Try.func53.trans (congrArg some (by kernel_rfl))
  t4 := Try.underlying4
  a4 := Try.isAgg4
  z4 := Try.sizeOf4
  v4 := Try.zeroValue4
  t22 := Try.underlying49
  a22 := Try.isAgg49
  z22 := Try.sizeOf49
  v22 := Try.zeroValue49
  t5 := Try.underlying5
  i5 := by kernel_rfl

end Go.Proofs.Ytfhcockdlfidmaa.Y
