/- Plain laws of the sheet of usage: what a row is, to the program and to the document. No statement of its own. -/
import Derived.Test.YtijpigojhildgaaCe
namespace Go.Proofs.Ytijpigojhildgaa.Pure
open Go.Vk Go.Am Go.Pg Go.Sort Go.Proofs Go.Proofs.Ytijpigojhildgaa.Y
set_option linter.unusedVariables false
set_option linter.unusedSimpArgs false
def inB (x lo hi : Int) : Bool := decide (lo ≤ x) && decide (x ≤ hi)
def placeB (r : RR) : Bool := inB r.1 0 31 && (inB r.2.1 1 32 && (inB r.2.2.1 1 8 && (inB r.2.2.2.1 0 5 && inB r.2.2.2.2.1 0 1048576)))
def rightB6 (r : RR) : Bool := placeB r && inB r.2.2.2.2.2 1 1099511627776
theorem uwithin_eq (x lo hi : Int) : usage_within.f x lo hi = some (inB x lo hi) := by
  unfold usage_within.f inB
  by_cases h : lo ≤ x
  · rw [show decide (x ≥ lo) = true from decide_eq_true h]; rfl
  · rw [show decide (x ≥ lo) = false from decide_eq_false h]; rfl
theorem place_eq (r : RR) : usage_Row_place.f r = some (placeB r) := by
  unfold usage_Row_place.f placeB
  simp only [uwithin_eq, Option.bind_some]
  cases inB r.1 0 31 <;> cases inB r.2.1 1 32 <;> cases inB r.2.2.1 1 8 <;> cases inB r.2.2.2.1 0 5 <;> cases inB r.2.2.2.2.1 0 1048576 <;> rfl
theorem stepR (x lo hi : Int) (K : Option Bool) : (((bif !(decide (x < lo)) then (some (decide (x > hi))) else (some true)) : Option Bool).bind fun e => bif e then some false else K) = bif inB x lo hi then K else some false := by
  unfold inB
  by_cases h : x < lo
  · rw [show decide (x < lo) = true from decide_eq_true h, show decide (lo ≤ x) = false from decide_eq_false (by omega)]; rfl
  · rw [show decide (x < lo) = false from decide_eq_false h, show decide (lo ≤ x) = true from decide_eq_true (by omega)]
    by_cases k : x ≤ hi
    · rw [show decide (x > hi) = false from decide_eq_false (by omega), show decide (x ≤ hi) = true from decide_eq_true k]; rfl
    · rw [show decide (x > hi) = true from decide_eq_true (by omega), show decide (x ≤ hi) = false from decide_eq_false k]; rfl
theorem right6_eq (r : RR) : purserref20_Right.f (nums r) = some (rightB6 r) := by
  unfold purserref20_Right.f rightB6 placeB
  simp only [stepR]
  show (bif inB r.1 0 31 then (bif inB r.2.1 1 32 then (bif inB r.2.2.1 1 8 then (bif inB r.2.2.2.1 0 5 then (bif inB r.2.2.2.2.1 0 1048576 then (bif inB r.2.2.2.2.2 1 1099511627776 then some true else some false) else some false) else some false) else some false) else some false) else some false) = _
  cases inB r.1 0 31 <;> cases inB r.2.1 1 32 <;> cases inB r.2.2.1 1 8 <;> cases inB r.2.2.2.1 0 5 <;> cases inB r.2.2.2.2.1 0 1048576 <;> cases inB r.2.2.2.2.2 1 1099511627776 <;> rfl
theorem stepO (x y : Int) (K : Option Int) (P : Prop) (hK : ∃ q, K = some q ∧ (q < 0 ↔ P)) : ∃ q, (bif (x != y) then (bif decide (x < y) then (some (-1)) else (some 1)) else K) = some q ∧ (q < 0 ↔ x < y ∨ (x = y ∧ P)) := by
  obtain ⟨q, rfl, hq⟩ := hK
  by_cases h : x = y
  · subst h
    exact ⟨q, by simp, by rw [hq]; simp⟩
  · have hb : (x != y) = true := by simp [h]
    by_cases k : x < y
    · exact ⟨-1, by rw [hb, show decide (x < y) = true from decide_eq_true k]; rfl, by simp [k]⟩
    · exact ⟨1, by rw [hb, show decide (x < y) = false from decide_eq_false k]; rfl, by simp [k, h]⟩
theorem order6_eq (a b : RR) : ∃ q, purserref20_order.f (nums a) (nums b) = some q ∧ (q < 0 ↔ lt6 a b) := by
  unfold purserref20_order.f lt6
  refine stepO _ _ _ _ (stepO _ _ _ _ (stepO _ _ _ _ (stepO _ _ _ _ ?_)))
  obtain ⟨q, h1, h2⟩ := stepO ((nums a).getD 4 0) ((nums b).getD 4 0) (some 0) False ⟨0, rfl, by simp⟩
  exact ⟨q, h1, by rw [h2]; simp [nums]⟩
end Go.Proofs.Ytijpigojhildgaa.Pure
