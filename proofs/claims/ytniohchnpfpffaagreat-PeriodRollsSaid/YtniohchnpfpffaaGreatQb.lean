/- Plain laws of the journal: the first line of its laws, and what a row of top-ups makes. No statement of its own. -/
import Derived.Test.YtniohchnpfpffaaGreatQa
namespace Go.Proofs.YtniohchnpfpffaaGreat.Pure
open Go.Vk Go.Am Go.Pg Go.Sort Go.Proofs.YtniohchnpfpffaaGreat.Y
set_option linter.unusedVariables false
set_option linter.unusedSimpArgs false

def legs1 : List Leg := [((1, 0, 0), 5), ((2, 1, 0), -5)]
theorem make_1 : entry_Make.f 1 5 [1] 0 = some ((1, legs1), 0) := by
  obtain ⟨ys, hp, hs, hm⟩ := make_ok 1 5 [1] 0 (by decide) (by decide)
  have hys : ys = legs1 := by
    refine sort_fix (hp.trans ?_) hs ?_
    · decide
    · simp [ltA, legs1]
  subst hys
  have hc : chk 1 legs1 = 0 := by decide
  rw [hc] at hm
  simpa using hm
def J1 : Jn := ([((1, legs1), 0)], (0, ([some ((1, 0, 0), 5), some ((2, 1, 0), -5)], [[some ((1, 0, 0), 5), some ((2, 1, 0), -5)]])))
theorem post_1 : journal_Journal_Post.f ([], (0, ([], [[]]))) (1, legs1) = some (J1, (0, 0)) := by
  rw [post_eq ([], (0, ([], [[]]))) (1, legs1) 0 rfl (by decide) (by decide) (by decide)]
  have hc : chk 1 legs1 = 0 := by decide
  have hf : legs1.any (far []) = false := by decide
  simp only [hc, hf]
  rfl
theorem eqA (a b : Acc) : eqT KA a b = decide (a = b) := by
  obtain ⟨x, y, z⟩ := a
  obtain ⟨u, v, w⟩ := b
  simp [eqT, Bool.decide_and]
  rfl
theorem bal_upd (B : Bk) (l : Leg) (q : Acc) : bal (upd B l) q = if q = l.1 then IntKind.i64.wrap (bal B l.1 + l.2) else bal B q := by
  unfold upd
  unfold bal
  rw [get_set flatK]
  rw [eqA]
  by_cases h : q = l.1
  · simp [h]
  · simp [h]
def legs2 : List Leg := [((1, 0, 0), 9007199254740992), ((2, 1, 0), -4503599627370496), ((2, 2, 0), -4503599627370496)]
theorem make_2 : entry_Make.f 1 4503599627370496 [1, 2] 0 = some ((1, legs2), 0) := by
  obtain ⟨ys, hp, hs, hm⟩ := make_ok 1 4503599627370496 [1, 2] 0 (by decide) (by decide)
  have hys : ys = legs2 := by
    refine sort_fix (hp.trans ?_) hs ?_
    · decide
    · simp [ltA, legs2]
  subst hys
  have hc : chk 1 legs2 = 0 := by decide
  rw [hc] at hm
  simpa using hm
/-- so many top-ups -/
def tops (j : Jn) : Nat → Jn
  | 0 => j
  | i + 1 => postJ (tops j i) (1, legs2)
structure Top (p i : Nat) (j : Jn) : Prop where
  list : j.1.length = i
  per : j.2.1 = (p : Int)
  mov : j.2.2.2.length = p + 1
  a0 : bal j.2.2.1 (1, 0, 0) = (i : Int) * 9007199254740992
  a1 : bal j.2.2.1 (2, 1, 0) = -((i : Int) * 4503599627370496)
  a2 : bal j.2.2.1 (2, 2, 0) = -((i : Int) * 4503599627370496)
theorem top_next {p i : Nat} {j : Jn} (h : Top p i j) (hi : i < 128) : Top p (i + 1) (postJ j (1, legs2)) := by
  obtain ⟨h1, h2, h3, h4, h5, h6⟩ := h
  have k1 : ¬ ((2, 1, 0) : Acc) = (1, 0, 0) := by decide
  have k2 : ¬ ((2, 2, 0) : Acc) = (1, 0, 0) := by decide
  have k3 : ¬ ((2, 2, 0) : Acc) = (2, 1, 0) := by decide
  have k4 : ¬ ((1, 0, 0) : Acc) = (2, 1, 0) := by decide
  have k5 : ¬ ((1, 0, 0) : Acc) = (2, 2, 0) := by decide
  have k6 : ¬ ((2, 1, 0) : Acc) = (2, 2, 0) := by decide
  refine ⟨by simp [postJ, h1], h2, by simp [postJ, h3], ?_, ?_, ?_⟩
  · simp only [postJ, addM, legs2, List.foldl_cons, List.foldl_nil, bal_upd, k4, k5, if_false, if_true]
    rw [h4, wr _ (by omega) (by omega)]
    omega
  · simp only [postJ, addM, legs2, List.foldl_cons, List.foldl_nil, bal_upd, k1, k6, if_false, if_true]
    rw [h5, wr _ (by omega) (by omega)]
    omega
  · simp only [postJ, addM, legs2, List.foldl_cons, List.foldl_nil, bal_upd, k2, k3, if_false, if_true]
    rw [h6, wr _ (by omega) (by omega)]
    omega
theorem top_far {p i : Nat} {j : Jn} (h : Top p i j) (hi : i ≤ 128) : legs2.any (far j.2.2.1) = decide (i = 128) := by
  obtain ⟨h1, h2, h3, h4, h5, h6⟩ := h
  simp only [legs2, List.any_cons, List.any_nil, far, h4, h5, h6]
  rw [wr ((i : Int) * 9007199254740992 + 9007199254740992) (by omega) (by omega), wr (-((i : Int) * 4503599627370496) + -4503599627370496) (by omega) (by omega)]
  by_cases hc : i = 128
  · subst hc; decide
  · have e1 : decide ((i : Int) * 9007199254740992 + 9007199254740992 > 1152921504606846976) = false := by simp; omega
    have e2 : decide ((i : Int) * 9007199254740992 + 9007199254740992 < -1152921504606846976) = false := by simp; omega
    have e3 : decide (-((i : Int) * 4503599627370496) + -4503599627370496 > 1152921504606846976) = false := by simp; omega
    have e4 : decide (-((i : Int) * 4503599627370496) + -4503599627370496 < -1152921504606846976) = false := by simp; omega
    simp [e1, e2, e3, e4, hc]
theorem post_top {p i : Nat} {j : Jn} (h : Top p i j) (hi : i ≤ 128) : journal_Journal_Post.f j (1, legs2) = some (if i = 128 then (j, (0, 6)) else (postJ j (1, legs2), ((i : Int), 0))) := by
  have hc : chk 1 legs2 = 0 := by decide
  rw [post_eq j (1, legs2) p h.per (by rw [h.mov]; omega) (by rw [h.list]; omega) (by decide)]
  have hl : ¬ j.1.length = 16384 := by rw [h.list]; omega
  have hf := top_far h hi
  simp only [hc, hf]
  rw [if_neg (by simp), if_neg hl, h.list]
  by_cases h128 : i = 128
  · simp [h128]
  · simp [h128]
theorem top_all {p : Nat} {j : Jn} (h : Top p 0 j) : ∀ i, i ≤ 128 → Top p i (tops j i)
  | 0, _ => h
  | i + 1, hi => top_next (top_all h i (by omega)) (by omega)
end Go.Proofs.YtniohchnpfpffaaGreat.Pure
