/- Plain laws of the sheet of usage: some numbers are read of any bytes. No statement of its own. -/
import Derived.Test.YtijpigojhildgaaCf
namespace Go.Proofs.Ytijpigojhildgaa.Pure
open Go.Vk Go.Am Go.Pg Go.Sort Go.Proofs Go.Proofs.Ytijpigojhildgaa.Y
set_option linter.unusedVariables false
set_option linter.unusedSimpArgs false
/-- k numbers are read, one behind the other. -/
def rdK (most : Nat) : Nat → Rd8 → Rd8 × List Int
  | 0, s => (s, [])
  | k + 1, s => ((rdK most k (uintE most s).1).1, (uintE most s).2 :: (rdK most k (uintE most s).1).2)
theorem uintE_stay (most : Nat) {s : Rd8} (h : s.2 ≠ 0) : uintE most s = (s, 0) := by unfold uintE; rw [if_neg h]
theorem rdK_stay (most : Nat) {s : Rd8} (h : s.2 ≠ 0) : ∀ k, (rdK most k s).1 = s
  | 0 => rfl
  | k + 1 => by simp only [rdK, uintE_stay most h]; exact rdK_stay most h k
theorem rdK_cases (most : Nat) (hm : most < 2 ^ 63) : ∀ (k : Nat) (s : Rd8), okB s →
    (∃ (l r : List Int), l.length = k ∧ s = (numsB l ++ r, 0) ∧ rdK most k s = ((r, 0), l) ∧ okB (r, 0) ∧ ∀ x ∈ l, 0 ≤ x ∧ x ≤ most) ∨ (∃ (bs : List Int) (e : Int), e ≠ 0 ∧ (rdK most k s).1 = (bs, e) ∧ okB (bs, e))
  | 0, s, h => by
    obtain ⟨bs, e⟩ := s
    by_cases he : e = 0
    · subst he
      exact .inl ⟨[], bs, rfl, rfl, rfl, h, by simp⟩
    · exact .inr ⟨bs, e, he, rfl, h⟩
  | k + 1, s, h => by
    rcases uintE_cases most s h with ⟨n, r, rfl, h1, h2, h3, h4⟩ | ⟨e, he, h3, h4⟩
    · rcases rdK_cases most hm k (r, 0) h4 with ⟨l, r', g1, g2, g3, g4, g5⟩ | ⟨bs, e, g1, g2, g3⟩
      · simp only [Prod.mk.injEq, and_true] at g2
        subst g2
        refine .inl ⟨(n : Int) :: l, r', by simp [g1], ?_, ?_, g4, ?_⟩
        · simp [numsB]
        · simp only [rdK, h3, g3]
        · intro x hx
          rcases List.mem_cons.1 hx with rfl | hx
          · exact ⟨by omega, by omega⟩
          · exact g5 x hx
      · exact .inr ⟨bs, e, g1, by simp only [rdK, h3]; exact g2, g3⟩
    · refine .inr ⟨s.1, e, he, ?_, h4⟩
      simp only [rdK, h3]
      exact rdK_stay most (show ((s.1, e) : Rd8).2 ≠ 0 from he) k
end Go.Proofs.Ytijpigojhildgaa.Pure
