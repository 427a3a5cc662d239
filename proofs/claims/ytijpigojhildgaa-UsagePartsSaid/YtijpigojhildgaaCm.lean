/- Plain laws of the sheet of usage: rows that were read without an error. No statement of its own. -/
import Derived.Test.YtijpigojhildgaaCl
namespace Go.Proofs.Ytijpigojhildgaa.Pure
open Go.Vk Go.Am Go.Pg Go.Sort Go.Proofs Go.Proofs.Ytijpigojhildgaa.Y
set_option linter.unusedVariables false
set_option linter.unusedSimpArgs false
theorem rowOf_nums {l : List Int} (h : l.length = 6) : nums (rowOf l) = l := by
  match l, h with
  | [a, b, c, d, e, f], _ => rfl
theorem row6_cases (s : Rd8) (h : okB s) :
    (∃ (q : RR) (r : List Int), s = (rowB q ++ r, 0) ∧ row6 s = ((r, 0), q) ∧ okB (r, 0) ∧ ∀ x ∈ nums q, 0 ≤ x ∧ x ≤ 1099511627776) ∨ ((row6 s).1.2 ≠ 0) := by
  rcases rdK_cases 1099511627776 (by decide) 6 s h with ⟨l, r, g1, g2, g3, g4, g5⟩ | ⟨bs, e, g1, g2, g3⟩
  · refine .inl ⟨rowOf l, r, ?_, ?_, g4, ?_⟩
    · unfold rowB; rw [rowOf_nums g1]; exact g2
    · unfold row6; rw [g3]
    · rw [rowOf_nums g1]; exact g5
  · refine .inr ?_
    unfold row6
    rw [g2]; exact g1
theorem rdRows_cases : ∀ (n : Nat) (s : Rd8), okB s → (rdRows n s).1.2 = 0 → ∃ r : List Int, s = ((rdRows n s).2.flatMap rowB ++ r, 0) ∧ (rdRows n s).1 = (r, 0) ∧ (rdRows n s).2.length = n ∧ ∀ q ∈ (rdRows n s).2, ∀ x ∈ nums q, 0 ≤ x ∧ x ≤ 1099511627776
  | 0, (bs, e), h, he => by
    have he : e = 0 := he
    subst he
    exact ⟨bs, rfl, rfl, rfl, by simp [rdRows]⟩
  | n + 1, s, h, he => by
    rcases row6_cases s h with ⟨q, r, rfl, g2, g3, g4⟩ | g
    · have he : (rdRows n (r, 0)).1.2 = 0 := by simpa only [rdRows, g2] using he
      obtain ⟨r', k1, k2, k3, k4⟩ := rdRows_cases n (r, 0) g3 he
      refine ⟨r', ?_, ?_, ?_, ?_⟩
      · simp only [rdRows, g2, List.flatMap_cons, List.append_assoc]
        have k1 : r = (rdRows n (r, 0)).2.flatMap rowB ++ r' := congrArg Prod.fst k1
        rw [← k1]
      · simp only [rdRows, g2]; exact k2
      · simp only [rdRows, g2, List.length_cons, k3]
      · intro p hp
        simp only [rdRows, g2] at hp
        rcases List.mem_cons.1 hp with rfl | hp
        · exact g4
        · exact k4 p hp
    · exact absurd (by
        have : (rdRows n (row6 s).1).1.2 = 0 := he
        rwa [rdRows_stay g n] at this) g
end Go.Proofs.Ytijpigojhildgaa.Pure
