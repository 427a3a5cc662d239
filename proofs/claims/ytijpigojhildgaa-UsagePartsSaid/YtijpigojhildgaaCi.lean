/- Plain laws of the sheet of usage: a row is read of any bytes. No statement of its own. -/
import Derived.Test.YtijpigojhildgaaCh
namespace Go.Proofs.Ytijpigojhildgaa.Pure
open Go.Vk Go.Am Go.Pg Go.Sort Go.Proofs Go.Proofs.Ytijpigojhildgaa.Y
set_option linter.unusedVariables false
set_option linter.unusedSimpArgs false
theorem uintE_ok (most : Nat) (s : Rd8) (h : okB s) : okB (uintE most s).1 := by
  rcases uintE_cases most s h with ⟨n, r, rfl, h1, h2, h3, h4⟩ | ⟨e, he, h3, h4⟩
  · rw [h3]; exact h4
  · rw [h3]; exact h4
/-- numbers as a row -/
def rowOf (l : List Int) : RR := (l.getD 0 0, (l.getD 1 0, (l.getD 2 0, (l.getD 3 0, (l.getD 4 0, l.getD 5 0)))))
/-- six numbers: the reader behind them, and the row -/
def row6 (s : Rd8) : Rd8 × RR := ((rdK 1099511627776 6 s).1, rowOf (rdK 1099511627776 6 s).2)
/-- is it one, behind the last? -/
def goodB (i : Int) (last q : RR) : Bool := placeB q && (decide (q.2.2.2.2.2 ≥ 1) && ((i == 0) || decide (ord6 last q < 0)))
theorem good_eq (r c1 c2 c3 c4 : Bool) : (bif r then (bif c1 then (bif c2 then (bif !c3 then (some c4) else (some true)) else (some false)) else (some false)) else (some false)) = some (r && (c1 && (c2 && (c3 || c4)))) := by
  cases r <;> cases c1 <;> cases c2 <;> cases c3 <;> cases c4 <;> rfl
theorem l3_eq (r2 : (List Int × Int) × Int) (right : Bool) (i : Int) (s : Rd8) (M : Sh) (last : RR) (h : okB s) (hi : i < r2.2) :
    purserlaw20_UsageReads.l3 r2 (right, i, s, M, last) = some (.inl (right && goodB i last (row6 s).2, IntKind.i64.wrap (i + 1), (row6 s).1, mset K6 (.int .i64) M (ky (row6 s).2.1 (row6 s).2.2.1 (row6 s).2.2.2.1 (row6 s).2.2.2.2.1 (row6 s).2.2.2.2.2.1) (row6 s).2.2.2.2.2.2, (row6 s).2)) := by
  have hU : ∀ s : Rd8, okB s → codec_Reader_Uint.f (s.1, s.2) 1099511627776 = some (uintE 1099511627776 s) := fun s h => uintE_own 1099511627776 s h (by decide)
  have h1 := uintE_ok 1099511627776 s h
  have h2 := uintE_ok 1099511627776 _ h1
  have h3 := uintE_ok 1099511627776 _ h2
  have h4 := uintE_ok 1099511627776 _ h3
  have h5 := uintE_ok 1099511627776 _ h4
  unfold purserlaw20_UsageReads.l3
  rw [show decide (((right, i, s, M, last) : Bool × Int × (List Int × Int) × Sh × RR).2.1 < r2.2) = true from decide_eq_true hi, cond_true]
  simp only
  rw [hU s h, Option.bind_some, hU _ h1, Option.bind_some, hU _ h2, Option.bind_some, hU _ h3, Option.bind_some, hU _ h4, Option.bind_some, hU _ h5, Option.bind_some]
  rw [place_eq, Option.bind_some]
  rw [order_eq, Option.bind_some]
  rw [good_eq]
  rfl
end Go.Proofs.Ytijpigojhildgaa.Pure
