/- Plain laws of the sheet of usage: what the map of rising rows has. No statement of its own. -/
import Derived.Test.YtijpigojhildgaaCp
namespace Go.Proofs.Ytijpigojhildgaa.Pure
open Go.Vk Go.Am Go.Pg Go.Sort Go.Proofs Go.Proofs.Ytijpigojhildgaa.Y
set_option linter.unusedVariables false
set_option linter.unusedSimpArgs false
theorem mlen_ent : ∀ (R : List RR), mlen K6 (.int .i64) (R.map entQ) = R.length
  | [] => rfl
  | q :: R => by
    show mlen K6 (.int .i64) (R.map entQ) + 1 = R.length + 1
    rw [mlen_ent R]
theorem mget_ent : ∀ (R : List RR), R.Pairwise lt6 → ∀ q ∈ R, mget K6 (.int .i64) (R.map entQ) (kq q) = some q.2.2.2.2.2
  | [], _, q, h => by simp at h
  | p :: R, hs, q, h => by
    rw [List.pairwise_cons] at hs
    show (bif eqT K6 (kq q) (kq p) then _ else _) = _
    rcases List.mem_cons.1 h with rfl | h
    · rw [(eq6 _ _).2 rfl]; rfl
    · rw [eq6_ne (fun e => lt6_kq (hs.1 q h) e.symm), cond_false]
      exact mget_ent R hs.2 q h
end Go.Proofs.Ytijpigojhildgaa.Pure
