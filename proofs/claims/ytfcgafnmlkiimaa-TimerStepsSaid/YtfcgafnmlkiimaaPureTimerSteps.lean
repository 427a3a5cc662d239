/- The plain law of TimerSteps: what the law computes is true, whatever the input. -/
import Derived.Test.YtfcgafnmlkiimaaTd
namespace Go.Proofs.Ytfcgafnmlkiimaa.Pure
open Go.Vk Go.Am Go.Pg Go.Hp Go.Proofs Go.Proofs.Ytfcgafnmlkiimaa.Y
set_option linter.unusedVariables false
set_option linter.unusedSimpArgs false
/-- Both are set alike. -/
theorem set_two {x y : Tm} {S : List (Int × Int)} (hx : Rl x S) (hy : Rl y S) (hp : ∀ p ∈ S, 0 ≤ p.1) (id at_ : Int) : ∃ x' y' e S', timer_Timers_Set.f x id at_ = some (x', e) ∧ timer_Timers_Set.f y id at_ = some (y', e) ∧ Rl x' S' ∧ Rl y' S' ∧ ∀ p ∈ S', 0 ≤ p.1 := by
  rcases set_rl hx id at_ with ⟨h1, h2⟩ | ⟨h1, h2, h3, h4⟩ | ⟨h1, h2, x', h3, h4⟩
  · exact ⟨x, y, 1, S, h2, set_arg y id at_ h1, hx, hy, hp⟩
  · rcases set_rl hy id at_ with ⟨k1, k2⟩ | ⟨k1, k2, k3, k4⟩ | ⟨k1, k2, y', k3, k4⟩
    · rw [h1] at k1; cases k1
    · exact ⟨x, y, 10, S, h4, k4, hx, hy, hp⟩
    · rcases k2 with ⟨p, hp, e⟩ | k2
      · exact absurd e (h2 p hp)
      · omega
  · obtain ⟨y', k3, k4⟩ := set_in hy id at_ h1 h2
    refine ⟨x', y', 0, _, h3, k3, h4, k4, fun p hpm => ?_⟩
    rcases mem_ins.1 hpm with rfl | hpm
    · unfold inR at h1
      simp only [Bool.and_eq_true, decide_eq_true_eq] at h1
      exact h1.1.2
    · exact hp p (mem_rm.1 hpm).1
theorem steps_set (a0 : List (Int × Int × Int)) : ∀ (m i : Nat) (x y : Tm) (S : List (Int × Int)), i + m = 60 → Rl x S → Rl y S → (∀ p ∈ S, 0 ≤ p.1) → ∃ x' y' S', loopO (purserlaw19_TimerSteps.l4 a0) ((i : Int), x, y) = some (.inr (x', y')) ∧ Rl x' S' ∧ Rl y' S' ∧ ∀ p ∈ S', 0 ≤ p.1 := by
  intro m
  induction m with
  | zero =>
    intro i x y S hi hx hy hp
    obtain rfl : i = 60 := by omega
    have hs : purserlaw19_TimerSteps.l4 a0 (((60 : Nat) : Int), x, y) = some (.inr (.inr (x, y))) := by
      unfold purserlaw19_TimerSteps.l4
      have : decide (((60 : Nat) : Int) < 60) = false := by decide
      rw [this]
      cases decide (((60 : Nat) : Int) < (a0.length : Int)) <;> rfl
    exact ⟨x, y, S, by rw [loopO_eq, hs]; rfl, hx, hy, hp⟩
  | succ m ih =>
    intro i x y S hi hx hy hp
    by_cases hl : i < a0.length
    · obtain ⟨x', y', e, S', h1, h2, h3, h4, h5⟩ := set_two hx hy hp ((a0.getD (i : Int).toNat (0, (0, 0))).2.1) ((a0.getD (i : Int).toNat (0, (0, 0))).2.2)
      have hs : purserlaw19_TimerSteps.l4 a0 ((i : Int), x, y) = some (.inl (((i + 1 : Nat) : Int), x', y')) := by
        unfold purserlaw19_TimerSteps.l4
        have e1 : decide ((i : Int) < 60) = true := by simp; omega
        simp only [ilt hl, nn, e1, Bool.and_self, cond_true, Option.bind_some, e3, h1, h2, bne_self_eq_false, cond_false, wrS i (by omega)]
      rw [loopO_eq, hs]
      simp only [Option.bind_some]
      exact ih (i + 1) x' y' S' (by omega) h3 h4 h5
    · have hs : purserlaw19_TimerSteps.l4 a0 ((i : Int), x, y) = some (.inr (.inr (x, y))) := by
        unfold purserlaw19_TimerSteps.l4
        have : decide ((i : Int) < (a0.length : Int)) = false := by simp; omega
        rw [this]
        rfl
      exact ⟨x, y, S, by rw [loopO_eq, hs]; rfl, hx, hy, hp⟩
theorem steps_due (a1 : List Int) (S : List (Int × Int)) (hS : Srt S) (hc : S.length ≤ 1024) : ∀ (m i : Nat) (now : Int) (x : Tm), i + m = 40 → 0 ≤ now → now ≤ i * 36028797018963968 → Rl x (abv now S) →
    ∃ now' x', 0 ≤ now' ∧ loopO (purserlaw19_TimerSteps.l12 a1) (now, (bel now S).map (·.2), (i : Int), x) = some (now', (bel now' S).map (·.2), x') ∧ Rl x' (abv now' S) := by
  intro m
  induction m with
  | zero =>
    intro i now x hi h0 hn hx
    obtain rfl : i = 40 := by omega
    have hs : purserlaw19_TimerSteps.l12 a1 (now, (bel now S).map (·.2), ((40 : Nat) : Int), x) = some (.inr (now, (bel now S).map (·.2), x)) := by
      unfold purserlaw19_TimerSteps.l12
      have : decide (((40 : Nat) : Int) < 40) = false := by decide
      simp only [this]
      cases decide (((40 : Nat) : Int) < (a1.length : Int)) <;> rfl
    exact ⟨now, x, h0, by rw [loopO_eq, hs]; rfl, hx⟩
  | succ m ih =>
    intro i now x hi h0 hn hx
    by_cases hl : i < a1.length
    · obtain ⟨q, hq, hq0, hq1⟩ := rest_in (a1.getD (i : Int).toNat 0) 36028797018963968 (by decide) (by decide)
      have hi2 : (i : Int) ≤ 39 := by omega
      have hw : IntKind.i64.wrap (now + q) = now + q := wr _ (by omega) (by omega)
      obtain ⟨x', d1, d2⟩ := due_r hx (now + q)
      rw [abv_next S (by omega : now ≤ now + q)] at d2
      have hlb : ((bel now S).map (·.2)).length ≤ 1024 := by
        rw [List.length_map]; exact Nat.le_trans (List.length_filter_le _ _) hc
      have hlb2 : ((bel (now + q) (abv now S)).map (·.2)).length ≤ 1024 := by
        rw [List.length_map]; exact Nat.le_trans (List.length_filter_le _ _) (Nat.le_trans (List.length_filter_le _ _) hc)
      have hs : purserlaw19_TimerSteps.l12 a1 (now, (bel now S).map (·.2), (i : Int), x) = some (.inl (now + q, (bel (now + q) S).map (·.2), ((i + 1 : Nat) : Int), x')) := by
        unfold purserlaw19_TimerSteps.l12
        have e1 : decide ((i : Int) < 40) = true := by simp; omega
        have e2 : decide (((bel now S).map (·.2)).length + ((bel (now + q) (abv now S)).map (·.2)).length ≤ 1099511627776) = true := by
          simp only [decide_eq_true_eq]; omega
        simp only [ilt hl, nn, e1, Bool.and_self, cond_true, Option.bind_some, e3, hq, hw, d1, e2, wrS i (by omega)]
        rw [← List.map_append, bel_next hS (by omega)]
      rw [loopO_eq, hs]
      simp only [Option.bind_some]
      exact ih (i + 1) (now + q) x' (by omega) (by omega) (by omega) d2
    · have hs : purserlaw19_TimerSteps.l12 a1 (now, (bel now S).map (·.2), (i : Int), x) = some (.inr (now, (bel now S).map (·.2), x)) := by
        unfold purserlaw19_TimerSteps.l12
        have : decide ((i : Int) < (a1.length : Int)) = false := by simp; omega
        simp only [this]
        rfl
      exact ⟨now, x, h0, by rw [loopO_eq, hs]; rfl, hx⟩
theorem TimerSteps (a0 : List (Int × Int × Int)) (a1 : List Int) (w0 : wfTy (.slice (.pair (.int .i64) (.pair (.int .i64) (.int .i64)))) a0) (w1 : wfTy (.slice (.int .i64)) a1) : purserlaw19_TimerSteps.f a0 a1 = some true := by
  have hn : timer_New.f = some ([], ([], [])) := rfl
  obtain ⟨x1, y1, S, f1, f2, f3, f4⟩ := steps_set a0 60 0 ([], ([], [])) ([], ([], [])) [] rfl rl_new rl_new (fun p h => by simp at h)
  have f1' : loopO (purserlaw19_TimerSteps.l4 a0) (0, ([], ([], [])), ([], ([], []))) = some (.inr (x1, y1)) := f1
  have hcap := f2.inv.cap
  rw [f2.len] at hcap
  have hb0 : bel 0 S = [] := List.filter_eq_nil_iff.2 fun p hp => by have := f4 p hp; simp; omega
  have ha0 : abv 0 S = S := List.filter_eq_self.2 fun p hp => by have := f4 p hp; simp; omega
  obtain ⟨now, x2, g0, g1, g2⟩ := steps_due a1 S f2.srt hcap 40 0 0 x1 rfl (Int.le_refl 0) (by simp) (by rw [ha0]; exact f2)
  rw [hb0] at g1
  have g1' : loopO (purserlaw19_TimerSteps.l12 a1) (0, [], 0, x1) = some (now, (bel now S).map (·.2), x2) := g1
  obtain ⟨y2, k1, k2⟩ := due_r f3 now
  have hlen := congrArg List.length (bel_abv f2.srt now)
  rw [List.length_append] at hlen
  have hw : IntKind.i64.wrap (((abv now S).length : Int) + ((bel now S).length : Int)) = (S.length : Int) := by
    rw [wr _ (by omega) (by omega)]; omega
  have hsame := same_eq ((bel now S).map (·.2)) (by rw [List.length_map]; omega)
  unfold purserlaw19_TimerSteps.f
  rw [hn, timers_eq]
  simp only [Option.bind_some, Bool.not_true, cond_false, f1', e3, len_rl f2, g1', len_rl g2, k1, hsame, cond_true, len_rl k2, List.length_map, hw, beq_self_eq_true]
end Go.Proofs.Ytfcgafnmlkiimaa.Pure
