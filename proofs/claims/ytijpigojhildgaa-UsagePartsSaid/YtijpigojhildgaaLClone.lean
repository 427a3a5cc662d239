/- Contracts of the kit, laid at this seat; no statement of its own. -/
import Derived.Test.YtijpigojhildgaaProg
import Derived.Shelf.Bytes.SlClone
import Derived.KernelRfl
namespace Go.Proofs.Ytijpigojhildgaa.Y
open Go.Proofs
set_option maxRecDepth 100000
def cloneL_ren : Go.Shelf.Ren := ⟨fun | 4 => 75 | n => n, fun | 4 => 4 | 5 => 5 | 22 => 54 | n => n, fun | n => n⟩
theorem cloneL : SlLaysK.n4 Try.prog cloneL_ren where
  mixed := by kernel_rfl
  f4 := Try.func75.trans (congrArg some (by kernel_rfl))
  t4 := Try.underlying4
  a4 := Try.isAgg4
  z4 := Try.sizeOf4
  v4 := Try.zeroValue4
  t22 := Try.underlying54
  a22 := Try.isAgg54
  z22 := Try.sizeOf54
  v22 := Try.zeroValue54
  t5 := Try.underlying5
  i5 := by kernel_rfl

end Go.Proofs.Ytijpigojhildgaa.Y
