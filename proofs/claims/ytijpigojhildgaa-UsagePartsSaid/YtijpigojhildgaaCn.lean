/- Plain laws of the sheet of usage: the program and the document find the same rows right. No statement of its own. -/
import Derived.Test.YtijpigojhildgaaCm
namespace Go.Proofs.Ytijpigojhildgaa.Pure
open Go.Vk Go.Am Go.Pg Go.Sort Go.Proofs Go.Proofs.Ytijpigojhildgaa.Y
set_option linter.unusedVariables false
set_option linter.unusedSimpArgs false
theorem goodB_R (i : Int) (last q : RR) (h : q.2.2.2.2.2 ≤ 1099511627776) : goodB i last q = goodR i last q := by
  unfold goodB goodR rightB6 inB
  rw [show decide (q.2.2.2.2.2 ≤ 1099511627776) = true from decide_eq_true h, Bool.and_true, Bool.and_assoc]
theorem goodAll_R : ∀ (R : List RR) (i : Nat) (last : RR), (∀ q ∈ R, ∀ x ∈ nums q, 0 ≤ x ∧ x ≤ 1099511627776) → goodAll i last R = goodAllR i last R
  | [], _, _, _ => rfl
  | q :: R, i, last, h => by
    have hq := (h q (by simp) q.2.2.2.2.2 (by simp [nums])).2
    simp only [goodAll, goodAllR, goodB_R _ _ _ hq, goodAll_R R (i + 1) q (fun p hp => h p (by simp [hp]))]
theorem goodAll_from : ∀ (R : List RR) (i : Nat) (last : RR), 0 < i → goodAll i last R = true → (∀ q ∈ R, placeB q = true ∧ 1 ≤ q.2.2.2.2.2) ∧ (last :: R).Pairwise lt6
  | [], _, _, _, _ => ⟨by simp, by simp⟩
  | q :: R, i, last, hi, h => by
    simp only [goodAll, Bool.and_eq_true] at h
    obtain ⟨h1, h2⟩ := h
    have hz : (((i : Nat) : Int) == 0) = false := by simp; omega
    simp only [goodB, Bool.and_eq_true, decide_eq_true_eq, hz, Bool.false_or, ord6_neg] at h1
    obtain ⟨p1, p2, p3⟩ := h1
    obtain ⟨k1, k2⟩ := goodAll_from R (i + 1) q (by omega) h2
    refine ⟨fun p hp => ?_, ?_⟩
    · rcases List.mem_cons.1 hp with rfl | hp
      · exact ⟨p1, p2⟩
      · exact k1 p hp
    · rw [List.pairwise_cons]
      refine ⟨fun p hp => ?_, k2⟩
      rcases List.mem_cons.1 hp with rfl | hp
      · exact p3
      · have := (List.pairwise_cons.1 k2).1 p hp
        unfold lt6 at *
        omega
end Go.Proofs.Ytijpigojhildgaa.Pure
