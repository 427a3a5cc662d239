/- Plain laws of the sheet of usage: rows are read of any bytes by the program. No statement of its own. -/
import Derived.Test.YtijpigojhildgaaCj
namespace Go.Proofs.Ytijpigojhildgaa.Pure
open Go.Vk Go.Am Go.Pg Go.Sort Go.Proofs Go.Proofs.Ytijpigojhildgaa.Y
set_option linter.unusedVariables false
set_option linter.unusedSimpArgs false
/-- rows, one behind the other -/
def rdRows : Nat → Rd8 → Rd8 × List RR
  | 0, s => (s, [])
  | n + 1, s => ((rdRows n (row6 s).1).1, (row6 s).2 :: (rdRows n (row6 s).1).2)
def goodAll : Nat → RR → List RR → Bool
  | _, _, [] => true
  | i, last, q :: R => goodB (i : Int) last q && goodAll (i + 1) q R
def putRow (M : Sh) (q : RR) : Sh := mset K6 (.int .i64) M (ky q.1 q.2.1 q.2.2.1 q.2.2.2.1 q.2.2.2.2.1) q.2.2.2.2.2
theorem row6_ok (s : Rd8) (h : okB s) : okB (row6 s).1 := by
  have h1 := uintE_ok 1099511627776 s h
  have h2 := uintE_ok 1099511627776 _ h1
  have h3 := uintE_ok 1099511627776 _ h2
  have h4 := uintE_ok 1099511627776 _ h3
  have h5 := uintE_ok 1099511627776 _ h4
  exact uintE_ok 1099511627776 _ h5
theorem own_rows (r2 : (List Int × Int) × Int) : ∀ (m i : Nat) (right : Bool) (s : Rd8) (M : Sh) (last : RR), okB s → ((i + m : Nat) : Int) = r2.2 → i + m < 1048576 →
    loopO (purserlaw20_UsageReads.l3 r2) (right, (i : Int), s, M, last) = some (right && goodAll i last (rdRows m s).2, (rdRows m s).1, (rdRows m s).2.foldl putRow M, ((rdRows m s).2.getLast?).getD last)
  | 0, i, right, s, M, last, h, hn, hl => by
    rw [loopO_eq]
    have : purserlaw20_UsageReads.l3 r2 (right, (i : Int), s, M, last) = some (.inr (right, s, M, last)) := by
      unfold purserlaw20_UsageReads.l3
      rw [show decide (((right, (i : Int), s, M, last) : Bool × Int × (List Int × Int) × Sh × RR).2.1 < r2.2) = false from decide_eq_false (by show ¬ (i : Int) < r2.2; omega)]
      rfl
    rw [this]
    simp [rdRows, goodAll]
  | m + 1, i, right, s, M, last, h, hn, hl => by
    rw [loopO_eq, l3_eq r2 right (i : Int) s M last h (by omega), Option.bind_some]
    simp only
    rw [Go.Pg.wrS i (by omega)]
    have ih := own_rows r2 m (i + 1) (right && goodB (i : Int) last (row6 s).2) (row6 s).1 (putRow M (row6 s).2) (row6 s).2 (row6_ok s h) (by rw [← hn]; congr 1; omega) (by omega)
    refine Eq.trans ih ?_
    simp only [rdRows, goodAll, List.foldl_cons, Bool.and_assoc]
    congr 4
    cases hR : (rdRows m (row6 s).1).2 with
    | nil => rfl
    | cons a l =>
      rw [List.getLast?_cons_cons, List.getLast?_eq_some_getLast (by simp : a :: l ≠ [])]
      rfl
end Go.Proofs.Ytijpigojhildgaa.Pure
