/- The plain law of TierRises: what the law computes is true, whatever the input. -/
import Derived.Test.YtencgpidlklenaaPc
namespace Go.Proofs.Ytencgpidlklenaa.Pure
open Go.Vk Go.Proofs.Ytencgpidlklenaa.Y
set_option linter.unusedVariables false
set_option linter.unusedSimpArgs false
theorem dear_loop (t : Int × Int × Int × Tr) (suf : Tr) : ∀ (pre : Tr) (d : Int), t.2.2.2 = pre ++ suf → (pre ++ suf).length ≤ 9 → loopO (purserlaw10_TierRises.l9 t) (d, (pre.length : Int)) = some (maxP d suf) := by
  induction suf with
  | nil =>
    intro pre d ht hn
    rw [loopO_eq]
    simp [purserlaw10_TierRises.l9, maxP, ht]
  | cons x rest ih =>
    intro pre d ht hn
    obtain ⟨u, p⟩ := x
    have hl : (pre ++ (u, p) :: rest).length = pre.length + rest.length + 1 := by simp; omega
    rw [hl] at hn
    have hlt : ((pre.length : Int) < ((pre ++ (u, p) :: rest).length : Int)) := by rw [hl]; omega
    have e2 : IntKind.i64.wrap ((pre.length : Int) + 1) = ((pre ++ [(u, p)]).length : Nat) := by rw [wr _ (by omega) (by omega)]; simp
    rw [loopO_eq]
    simp only [purserlaw10_TierRises.l9, ht, hlt, e2, getD_pre, decide_true, cond_true, Int.natCast_nonneg, Bool.and_self, Option.bind_some]
    rw [ih (pre ++ [(u, p)]) _ (by rw [ht]; simp) (by simp; omega), maxP]
theorem TierRises (t : Int × Int × Int × List (Int × Int)) (x y : Int) (h0 : wfTy (.pair (.int .i64) (.pair (.int .i64) (.pair (.int .i64) (.slice (.pair (.int .i64) (.int .i64)))))) t) (h1 : wfTy (.int .i64) x) (h2 : wfTy (.int .i64) y) : purserlaw10_TierRises.f t x y = some true := by
  obtain ⟨a, b, c, l⟩ := t
  have hl : (l.take 9).length ≤ 9 := by simp; omega
  have ux : ∀ z : Int, 0 ≤ IntKind.u64.wrap z := fun z => by rw [IntKind.wrap_u64]; omega
  have m1 : 0 ≤ Int.tmod (IntKind.u64.wrap x) 1099511627776 ∧ Int.tmod (IntKind.u64.wrap x) 1099511627776 < 1099511627776 := by
    rw [Int.tmod_eq_emod_of_nonneg (ux x)]; omega
  have m2 : 0 ≤ Int.tmod (IntKind.u64.wrap y) 1073741824 ∧ Int.tmod (IntKind.u64.wrap y) 1073741824 < 1073741824 := by
    rw [Int.tmod_eq_emod_of_nonneg (ux y)]; omega
  simp only [purserlaw10_TierRises.f, tame_eq, Option.bind_some]
  revert m1 m2
  generalize Int.tmod (IntKind.u64.wrap x) 1099511627776 = p
  generalize Int.tmod (IntKind.u64.wrap y) 1073741824 = q
  intro m1 m2
  generalize hL : l.take 9 = L at *
  rw [wr p (by omega) (by omega), wr q (by omega) (by omega), wr (1 + p) (by omega) (by omega), wr (1 + p + q) (by omega) (by omega), wr (1 + p - 1) (by omega) (by omega)]
  have ep : 1 + p - 1 = p := by omega
  rw [ep]
  simp only [own_split _ _ _ _ _ _ hl, own_tiers_ok, own_index _ _ _ _ _ hl, ref_check, Option.bind_some, orB, andB]
  by_cases hc : CK a b c L = 0
  · obtain ⟨c1, c2, c3⟩ := CK_chk hc
    obtain ⟨s1, s2, s3⟩ := SP_in (b := b) (x := p) (y := q) hc (by omega) (by omega)
    have i1 : IX a b c L (1 + p) = idx (1 + p) 0 L := by rw [IX, if_neg (by omega)]
    have i2 : IX a b c L (1 + p + q) = idx (1 + p + q) 0 L := by rw [IX, if_neg (by omega)]
    have j1 := idx_in hc (1 + p)
    have j2 := idx_mono (k := 1 + p) (k' := 1 + p + q) (by omega) L 0 0 (by omega) c2 c1
    have hpr := chk_prices (by omega) c1
    obtain ⟨d1, d2⟩ := maxP_ge L 0
    have d3 := maxP_le 1048576 L 0 (by omega) (fun z hz => (hpr z hz).2)
    have each := bl_each (B := q) (fun z hz => (s2 z hz).1) s3
    have hlines : ∀ z ∈ (SP a b c L p q).1, 0 ≤ z.2.1 ∧ z.2.1 ≤ 1073741824 ∧ 0 ≤ z.2.2 ∧ z.2.2 ≤ maxP 0 L := fun z hz => by
      obtain ⟨k1, w, k2, k3⟩ := s2 z hz
      have k4 := hpr w k2
      have k5 := d2 w k2
      have k6 := each z hz
      exact ⟨k1, by omega, by omega, by omega⟩
    obtain ⟨n, e1, e2, e3⟩ := CO_bound (maxP 0 L) q d1 d3 (by omega) _ hlines s3
    have hq : q * maxP 0 L ≤ 1073741824 * 1048576 := Int.mul_le_mul (by omega) d3 d1 (by omega)
    have hq0 : 0 ≤ q * maxP 0 L := Int.mul_nonneg (by omega) d1
    have hcost : tier_Cost.f (SP a b c L p q).1 = some (n, true) := by
      rw [cost_eq _ (by have := SP_len a b c L p q hl; omega) (fun z hz => by
        obtain ⟨k1, k2, k3, k4⟩ := hlines z hz
        exact ⟨⟨by omega, by omega⟩, ⟨by omega, by omega⟩⟩), e1]
    have hdear := dear_loop (a, b, c, L) L [] 0 rfl (by simpa using hl)
    have hdear : loopO (purserlaw10_TierRises.l9 (a, b, c, L)) (0, 0) = some (maxP 0 L) := hdear
    rw [i1, i2, hc, s1, hdear]
    simp only [Option.bind_some, hcost]
    rw [wr (q * maxP 0 L) (by omega) (by omega)]
    have t1 : decide (idx (1 + p) 0 L < 0) = false := by simp; omega
    have t2 : decide (idx (1 + p) 0 L > idx (1 + p + q) 0 L) = false := by simp; omega
    rw [t1, t2, decide_eq_true e3, decide_eq_true (show n ≥ 0 from e2)]
    rfl
  · have i1 : IX a b c L (1 + p) = -1 := by rw [IX, if_pos (.inl hc)]
    have i2 : IX a b c L (1 + p + q) = -1 := by rw [IX, if_pos (.inl hc)]
    have e1 : SP a b c L p q = ([], 1) := by rw [SP, if_pos (.inl hc)]
    have hcb : (CK a b c L != 0) = true := by simpa using hc
    rw [i1, i2, e1, hcb]
    rfl
end Go.Proofs.Ytencgpidlklenaa.Pure
