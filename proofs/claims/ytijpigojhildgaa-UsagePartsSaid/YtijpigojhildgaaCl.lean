/- Plain laws of the sheet of usage: rows are read of any bytes by the document. No statement of its own. -/
import Derived.Test.YtijpigojhildgaaCk
namespace Go.Proofs.Ytijpigojhildgaa.Pure
open Go.Vk Go.Am Go.Pg Go.Sort Go.Proofs Go.Proofs.Ytijpigojhildgaa.Y
set_option linter.unusedVariables false
set_option linter.unusedSimpArgs false
def goodAllR : Nat → RR → List RR → Bool
  | _, _, [] => true
  | i, last, q :: R => goodR (i : Int) last q && goodAllR (i + 1) q R
theorem row6_stay {s : Rd8} (h : s.2 ≠ 0) : (row6 s).1 = s := rdK_stay _ h 6
theorem rdRows_stay {s : Rd8} (h : s.2 ≠ 0) : ∀ n, (rdRows n s).1 = s
  | 0 => rfl
  | n + 1 => by simp only [rdRows, row6_stay h]; exact rdRows_stay h n
theorem ref_rows (r17 : (ByteArray × Int) × Int) : ∀ (m i : Nat) (right : Bool) (s : Rd8) (L : List RR) (last : RR), okB s → ((i + m : Nat) : Int) = r17.2 → i + m < 1048576 → L.length = i → (0 < i → (L.map nums).getD (i - 1) (List.replicate 6 0) = nums last) →
    ∃ (right' : Bool) (B : ByteArray) (e : Int) (L' : List (List Int)), loopO (purserlaw20_UsageReads.l18 r17) (right, (i : Int), (bytesS s.1, s.2), (), L.map nums) = some (right', (B, e), (), L') ∧
      ((rdRows m s).1.2 = 0 → right' = (right && goodAllR i last (rdRows m s).2) ∧ B = bytesS (rdRows m s).1.1 ∧ e = 0) ∧ ((rdRows m s).1.2 ≠ 0 → e ≠ 0)
  | m, i, right, s, L, last, h, hn, hl, hL, hlast => by
    by_cases he : s.2 = 0
    · match m with
      | 0 =>
        refine ⟨right, bytesS s.1, s.2, L.map nums, ?_, fun _ => ⟨by simp [rdRows, goodAllR], rfl, he⟩, fun h => absurd he h⟩
        rw [loopO_eq]
        have : purserlaw20_UsageReads.l18 r17 (right, (i : Int), (bytesS s.1, s.2), (), L.map nums) = some (.inr (right, (bytesS s.1, s.2), (), L.map nums)) := by
          unfold purserlaw20_UsageReads.l18
          simp only
          rw [show decide ((i : Int) < r17.2) = false from decide_eq_false (by omega)]
          rfl
        rw [this]; rfl
      | m + 1 =>
        obtain ⟨right', B, e, L', g1, g2, g3⟩ := ref_rows r17 m (i + 1) (right && goodR (i : Int) last (row6 s).2) (row6 s).1 (L ++ [(row6 s).2]) (row6 s).2 (row6_ok s h) (by rw [← hn]; congr 1; omega) (by omega) (by simp [hL]) (fun _ => by simp [← hL])
        refine ⟨right', B, e, L', ?_, fun hz => ?_, fun hz => g3 hz⟩
        · rw [loopO_eq, l18_eq r17 right i s L last h (by omega) he hL (by omega) hlast, Option.bind_some]
          simp only
          rw [Go.Pg.wrS i (by omega)]
          exact g1
        · obtain ⟨k1, k2, k3⟩ := g2 hz
          refine ⟨?_, k2, k3⟩
          rw [k1]
          simp only [rdRows, goodAllR, Bool.and_assoc]
    · refine ⟨right, bytesS s.1, s.2, L.map nums, ?_, fun hz => absurd (by rw [rdRows_stay he m] at hz; exact hz) he, fun _ => he⟩
      rw [loopO_eq]
      have hb : (s.2 == 0) = false := by simp [he]
      have : purserlaw20_UsageReads.l18 r17 (right, (i : Int), (bytesS s.1, s.2), (), L.map nums) = some (.inr (right, (bytesS s.1, s.2), (), L.map nums)) := by
        unfold purserlaw20_UsageReads.l18
        simp only [hb]
        cases decide ((i : Int) < r17.2) <;> rfl
      rw [this]; rfl
end Go.Proofs.Ytijpigojhildgaa.Pure
