/- Plain laws of the document's numbers in parts of 32 bits: what its sums come to. No statement of its own. -/
import Derived.Test.YtfcgafnmlkiimaaGreatDoorFc
set_option linter.unusedSimpArgs false
set_option linter.unusedVariables false
namespace Go.Proofs.YtfcgafnmlkiimaaGreatDoor.Pure
open Go.Vk Go.Am Go.Pg Go.Sort Go.Proofs.YtfcgafnmlkiimaaGreatDoor.Y
theorem maskU(x:Int):(((BitVec.ofInt (IntKind.bits .u64) x &&& BitVec.ofInt (IntKind.bits .u64) 4294967295):BitVec (IntKind.bits .u64)).toNat:Int)=x % 4294967296:=by
 have e1:(BitVec.ofInt (IntKind.bits .u64) x).toNat=(x % 18446744073709551616).toNat:=by
  rw[BitVec.toNat_ofInt];rfl
 have e2:(BitVec.ofInt (IntKind.bits .u64) (4294967295:Int)).toNat=2 ^ 32 - 1:=by decide
 rw[BitVec.toNat_and,e1,e2,Nat.and_two_pow_sub_one_eq_mod]
 omega
end Go.Proofs.YtfcgafnmlkiimaaGreatDoor.Pure
