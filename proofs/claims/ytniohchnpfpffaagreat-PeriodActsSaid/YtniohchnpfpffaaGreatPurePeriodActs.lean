/- The law PeriodActs, in plain Lean. No statement of its own. -/
import Derived.Test.YtniohchnpfpffaaGreatSh
set_option linter.unusedSimpArgs false
set_option linter.unusedVariables false
namespace Go.Proofs.YtniohchnpfpffaaGreat.Pure
open Go.Vk Go.Am Go.Pg Go.Sort Go.Proofs.YtniohchnpfpffaaGreat.Y
abbrev PAct := Int × Int × List Int × List Int × Int × Int × List Int
theorem zBg : PRel 0 0 0 0 (([] : FB), (([], (0, ([], [[]]))) : Jn)) (List.replicate 33 V0, ([], ([], 0))) := by
 have hz : ∀ k, bal ([] : Bk) k = 0 := fun k => rfl
 refine ⟨⟨bok_new, List.length_replicate, fun n hn => ?_⟩, ⟨⟨rfl, rfl, by omega, Nat.le_refl _⟩, rfl, rfl, rfl, fun x hx => by simp at hx, fun k => by rw [show bal _ k = 0 from hz k]; rfl, fun k => by rw [show bal _ k = 0 from hz k]; omega, fun k => by rw [show bal _ k = 0 from hz k]; omega⟩⟩
 rw [gDe _ _ (by rw [List.length_replicate]; omega), List.getElem_replicate]
 rfl
theorem zsf (a0 : List PAct) (n : Nat) (hn : n = min a0.length 40) : ∀ (d i p : Nat) (P : FB × Jn) (W : List FA × RJ), i + d = n → PRel p (64 * i) (32 * i) i P W →
  ∃ P' W' p', za3 (purserlaw15_PeriodActs.l4 a0) ((i : Int), (), P.1, P.2, (), W.1, W.2.1, W.2.2.1, W.2.2.2) = some (.inr ((), P'.1, P'.2, (), W'.1, W'.2.1, W'.2.2.1, W'.2.2.2)) ∧ PRel p' (64 * n) (32 * n) n P' W'
 | 0, i, p, P, W, hi, h => by
  refine ⟨P, W, p, ?_, by rw [show n = i by omega]; exact h⟩
  have hA : W.1.length = 33 := h.b.len
  rw [zay]
  unfold purserlaw15_PeriodActs.l4
  simp only
  by_cases hl : i < a0.length
  ·rw [show decide ((i : Int) < (a0.length : Int)) = true from decide_eq_true (by omega), cond_true, show decide ((i : Int) < 40) = false from decide_eq_false (by omega), Option.bind_some, cond_false, za5 hA]
   rfl
  ·rw [show decide ((i : Int) < (a0.length : Int)) = false from decide_eq_false (by omega), cond_false, Option.bind_some, cond_false, za5 hA]
   rfl
 | d + 1, i, p, P, W, hi, h => by
  have hA : W.1.length = 33 := h.b.len
  have hl : i < a0.length := by omega
  obtain ⟨P', W', p', h1, h2⟩ := act_eq h (by omega) (by omega) (by omega) (a0.getD i (0, (0, ([], ([], (0, (0, []))))))) 
  obtain ⟨P2, W2, p2, g1, g2⟩ := zsf a0 n hn d (i + 1) p' P' W' (by omega) (by rw [show 64 * (i + 1) = 64 * i + 64 by omega, show 32 * (i + 1) = 32 * i + 32 by omega]; exact h2)
  refine ⟨P2, W2, p2, ?_, g2⟩
  have hA' : W'.1.length = 33 := h2.b.len
  have hst : purserlaw15_PeriodActs.l4 a0 ((i : Int), (), P.1, P.2, (), W.1, W.2.1, W.2.2.1, W.2.2.2) = some (.inl (((i + 1 : Nat) : Int), (), P'.1, P'.2, (), W'.1, W'.2.1, W'.2.2.1, W'.2.2.2)) := by
   unfold purserlaw15_PeriodActs.l4
   simp only
   rw [show decide ((i : Int) < (a0.length : Int)) = true from decide_eq_true (by omega), cond_true, show decide ((i : Int) < 40) = true from decide_eq_true (by omega), Option.bind_some, cond_true, show decide ((0 : Int) ≤ (i : Int)) = true from decide_eq_true (by omega), Bool.true_and, cond_true, za5 hA, Int.toNat_natCast]
   rw [show purserlaw15_Act_do.f ((a0.getD i (0, (0, ([], ([], (0, (0, []))))))).1, (((a0.getD i (0, (0, ([], ([], (0, (0, []))))))).2).1, ((((a0.getD i (0, (0, ([], ([], (0, (0, []))))))).2).2).1, (((((a0.getD i (0, (0, ([], ([], (0, (0, []))))))).2).2).2).1, ((((((a0.getD i (0, (0, ([], ([], (0, (0, []))))))).2).2).2).2).1, (((((((a0.getD i (0, (0, ([], ([], (0, (0, []))))))).2).2).2).2).2).1, ((((((a0.getD i (0, (0, ([], ([], (0, (0, []))))))).2).2).2).2).2).2)))))) (P.1, (P.2.1, (P.2.2.1, (P.2.2.2.1, P.2.2.2.2)))) (W.1, (W.2.1, (W.2.2.1, W.2.2.2))) = some ((P', (W', ())), true) from h1, Option.bind_some]
   simp only
   rw [Bool.not_true, cond_false, za5 hA', wrS i (by omega)]
  rw [zay, hst]
  exact g1
theorem PeriodActs (x0 : List PAct) (wf0 : zsr (.slice (.pair (.int .i64) (.pair (.int .i64) (.pair (.slice (.int .i64)) (.pair (.slice (.int .i64)) (.pair (.int .i64) (.pair (.int .i64) (.slice (.int .i64))))))))) x0) : purserlaw15_PeriodActs.f x0 = some true := by
 obtain ⟨P', W', p', h1, h2⟩ := zsf x0 (min x0.length 40) rfl (min x0.length 40) 0 0 (([] : FB), (([], (0, ([], [[]]))) : Jn)) (List.replicate 33 V0, ([], ([], 0))) (by omega) zBg
 obtain ⟨Q, hq⟩ := like_eq h2 (by omega) (by omega)
 unfold purserlaw15_PeriodActs.f
 rw [zyb, Option.bind_some, Bool.not_true, Bool.not_false, cond_true, Option.bind_some, cond_false, show period_New.f = some (([] : FB), (([], (0, ([], [[]]))) : Jn)) from rfl, Option.bind_some]
 simp only
 have h1' : za3 (purserlaw15_PeriodActs.l4 x0) (0, (), ([] : FB), (([], (0, ([], [[]]))) : Jn), (), (List.replicate 33 V0), [], [], 0) = _ := h1
 rw [h1', Option.bind_some]
 simp only
 rw [za5 h2.b.len, show (P'.1, (P'.2.1, (P'.2.2.1, (P'.2.2.2.1, P'.2.2.2.2)))) = P' from rfl, show (W'.1, (W'.2.1, (W'.2.2.1, W'.2.2.2))) = W' from rfl, hq]
 rfl
end Go.Proofs.YtniohchnpfpffaaGreat.Pure
