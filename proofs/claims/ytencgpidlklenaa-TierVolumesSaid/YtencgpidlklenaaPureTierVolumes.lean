/- The plain law of TierVolumes: what the law computes is true, whatever the input. -/
import Derived.Test.YtencgpidlklenaaPl
import Derived.Test.YtencgpidlklenaaVk7
namespace Go.Proofs.Ytencgpidlklenaa.Pure
open Go.Vk
theorem TierVolumes (a b c : Int) (l : List (Int × Int)) (x y : Int) (h0 : wfTy (.pair (.int .i64) (.pair (.int .i64) (.pair (.int .i64) (.slice (.pair (.int .i64) (.int .i64)))))) (a, b, c, l)) (h1 : wfTy (.int .i64) x) (h2 : wfTy (.int .i64) y) : purserlaw10_TierVolumes.f a b c l x y = some true := by
  have hl : (l.take 9).length ≤ 9 := by simp; omega
  have ux : ∀ z : Int, 0 ≤ IntKind.u64.wrap z := fun z => by rw [IntKind.wrap_u64]; omega
  have m1 : 0 ≤ Int.tmod (IntKind.u64.wrap x) 1099511627776 ∧ Int.tmod (IntKind.u64.wrap x) 1099511627776 < 1099511627776 := by
    rw [Int.tmod_eq_emod_of_nonneg (ux x)]; omega
  have m2 : 0 ≤ Int.tmod (IntKind.u64.wrap y) 1073741824 ∧ Int.tmod (IntKind.u64.wrap y) 1073741824 < 1073741824 := by
    rw [Int.tmod_eq_emod_of_nonneg (ux y)]; omega
  simp only [purserlaw10_TierVolumes.f, tame_eq, Option.bind_some]
  revert m1 m2
  generalize Int.tmod (IntKind.u64.wrap x) 1099511627776 = p
  generalize Int.tmod (IntKind.u64.wrap y) 1073741824 = q
  intro m1 m2
  rw [wr p (by omega) (by omega), wr q (by omega) (by omega), wr (1 + q) (by omega) (by omega), wr (p + (1 + q)) (by omega) (by omega)]
  simp only [own_split _ _ _ _ _ _ hl, own_tiers_ok, cond_true, own_index _ _ _ _ _ hl, ref_check, Option.bind_some]
  by_cases hc : CK a 2 c (l.take 9) = 0
  · have hi := idx_in hc (p + (1 + q))
    have e1 : SP a 2 c (l.take 9) p (1 + q) = ([(idx (p + (1 + q)) 0 (l.take 9), 1 + q, ((l.take 9).getD (idx (p + (1 + q)) 0 (l.take 9)).toNat (0, 0)).2)], 0) := by
      rw [SP, if_neg (by omega), if_neg (by omega), if_pos rfl]
    have e2 : IX a 2 c (l.take 9) (p + (1 + q)) = idx (p + (1 + q)) 0 (l.take 9) := by rw [IX, if_neg (by omega)]
    rw [e1, e2, hc]
    have h3 : decide (idx (p + (1 + q)) 0 (l.take 9) < 0) = false := by simp; omega
    simp only [h3, decide_eq_true hi.1, decide_eq_true hi.2]
    simp
  · have e1 : SP a 2 c (l.take 9) p (1 + q) = ([], 1) := by rw [SP, if_pos (by omega)]
    have e2 : IX a 2 c (l.take 9) (p + (1 + q)) = -1 := by rw [IX, if_pos (by omega)]
    have e3 : (CK a 2 c (l.take 9) == 0) = false := by simpa using hc
    rw [e1, e2, e3]
    rfl
end Go.Proofs.Ytencgpidlklenaa.Pure
