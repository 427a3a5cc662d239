/- Plain laws: what Hold,Release,Commit,Refund,TopUp do to the accounts,the program's and the document's. No statement of its own. -/
import Derived.Test.YtniohchnpfpffaaGreatSb
set_option linter.unusedSimpArgs false
set_option linter.unusedVariables false
namespace Go.Proofs.YtniohchnpfpffaaGreat.Pure
open Go.Vk Go.Am Go.Pg Go.Sort Go.Proofs.YtniohchnpfpffaaGreat.Y
/-! ### accounts that are set -/
structure BRel(N:Nat)(B:FB)(As:List FA):Prop where
 ok:BOk B N
 len:As.length=33
 get: ∀n:Nat,n<33→As.getD n V0=geA B n
theorem BRel.at{N:Nat}{B:FB}{As:List FA}(h:BRel N B As){n:Int}(hn:1≤n∧n≤32):As.getD n.toNat V0=geA B n:=by
 rw[h.get n.toNat (by omega),show((n.toNat:Nat):Int)=n by omega]
theorem BRel.arr{N:Nat}{B:FB}{As:List FA}(h:BRel N B As):zhp V0 33 As=As:=zgs h.len
/-! ### Hold -/
end Go.Proofs.YtniohchnpfpffaaGreat.Pure
