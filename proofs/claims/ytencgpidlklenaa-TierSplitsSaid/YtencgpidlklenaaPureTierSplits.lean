/- The plain law of TierSplits: what the law computes is true, whatever the input. -/
import Derived.Test.YtencgpidlklenaaPl
import Derived.Test.YtencgpidlklenaaVk7
namespace Go.Proofs.Ytencgpidlklenaa.Pure
open Go.Vk
theorem TierSplits (a b c : Int) (l : List (Int × Int)) (x y : Int) (h0 : wfTy (.pair (.int .i64) (.pair (.int .i64) (.pair (.int .i64) (.slice (.pair (.int .i64) (.int .i64)))))) (a, b, c, l)) (h1 : wfTy (.int .i64) x) (h2 : wfTy (.int .i64) y) : purserlaw10_TierSplits.f a b c l x y = some true := by
  have hl : (l.take 9).length ≤ 9 := by simp; omega
  have hs := SP_len a b c (l.take 9) x y hl
  simp only [purserlaw10_TierSplits.f, tame_eq, Option.bind_some, own_split _ _ _ _ _ _ hl, ref_split _ _ _ _ _ _ hl, own_tiers_ok, List.take_take, Nat.min_self, cond_true, beq_self_eq_true,
    same_lines _ (Nat.le_trans hs (by decide)), own_index _ _ _ _ _ hl, ref_index _ _ _ _ _ hl, same_tariff _ _ _ _ (Nat.le_trans hl (by decide))]
end Go.Proofs.Ytencgpidlklenaa.Pure
