/- The plain law of TierCosts: what the law computes is true, whatever the input. -/
import Derived.Test.YtijpigojhildgaaPb
namespace Go.Proofs.Ytijpigojhildgaa.Pure
open Go.Vk Go.Proofs.Ytijpigojhildgaa.Y
set_option linter.unusedVariables false
set_option linter.unusedSimpArgs false
theorem bg_eta (n : Int) : ([(Bg n).1.getD 0 0, (Bg n).1.getD 1 0, (Bg n).1.getD 2 0, (Bg n).1.getD 3 0, (Bg n).1.getD 4 0, (Bg n).1.getD 5 0, (Bg n).1.getD 6 0, (Bg n).1.getD 7 0, (Bg n).1.getD 8 0, (Bg n).1.getD 9 0], (Bg n).2) = Bg n := rfl
theorem bgs_loop (l0 : List Int) (suf : List Int) : ∀ (pre : List Int) (S : Int), l0 = pre ++ suf → l0.length ≤ 1048576 → (∀ x ∈ suf, -9223372036854775808 ≤ x ∧ x ≤ 9223372036854775807) → -(9223372036854775808 * (pre.length : Int)) ≤ S → S ≤ 9223372036854775808 * (pre.length : Int) →
    loopO (purserref01_Sum.l1 l0) ((pre.length : Int), Bg S) = some (Bg (S + sumL suf)) := by
  induction suf with
  | nil =>
    intro pre S h hn _ _ _
    rw [loopO_eq]
    simp only [purserref01_Sum.l1, bg_eta]
    have : ¬ ((pre.length : Int) < (l0.length : Int)) := by rw [h]; simp
    rw [decide_eq_false this]
    simp [sumL]
  | cons x rest ih =>
    intro pre S h hn hx h1 h2
    have hx1 := hx x (by simp)
    have hl : l0.length = pre.length + rest.length + 1 := by rw [h]; simp; omega
    have hlt : (pre.length : Int) < (l0.length : Int) := by omega
    have g : l0.getD ((pre.length : Int)).toNat 0 = x := by rw [h]; exact getD_pre _ _ _ _
    have e2 : IntKind.i64.wrap ((pre.length : Int) + 1) = ((pre ++ [x]).length : Nat) := by rw [wr _ (by omega) (by omega)]; simp
    have hp : (pre.length : Int) ≤ 1048576 := by omega
    have hpl : ((pre ++ [x]).length : Int) = (pre.length : Int) + 1 := by simp
    rw [loopO_eq]
    simp only [purserref01_Sum.l1, hlt, g, e2, decide_true, cond_true, Int.natCast_nonneg, Bool.and_self, Option.bind_some, big_of x hx1, bg_eta]
    rw [big_plus S x (by omega) (by omega)]
    simp only [Option.bind_some, bg_eta]
    rw [ih (pre ++ [x]) (S + x) (by rw [h]; simp) hn (fun y hy => hx y (by simp [hy])) (by rw [hpl]; omega) (by rw [hpl]; omega)]
    simp only [sumL, Int.add_assoc]
theorem ref_sum (l : List Int) (hl : l.length ≤ 1048576) (h : ∀ x ∈ l, -9223372036854775808 ≤ x ∧ x ≤ 9223372036854775807) : purserref01_Sum.f l = some (FI (sumL l)) := by
  have h1 := bgs_loop l l [] 0 rfl hl h (by simp) (by simp)
  have h1 : loopO (purserref01_Sum.l1 l) (0, ([0, 0, 0, 0, 0, 0, 0, 0, 0, 0], false)) = some (Bg (sumL l)) := by
    have e : Bg 0 = ([0, 0, 0, 0, 0, 0, 0, 0, 0, 0], false) := by decide
    rw [e] at h1
    simpa using h1
  have hb := sumL_bound 9223372036854775808 l (fun x hx => by have := h x hx; omega)
  have hbl : (9223372036854775808 : Int) * l.length ≤ 9223372036854775808 * 1048576 := Int.mul_le_mul_of_nonneg_left (by omega) (by decide)
  simp only [purserref01_Sum.f, h1, Option.bind_some, bg_eta]
  rw [big_int _ (by omega)]
  rfl
theorem own_bl_loop (l0 : Ln) (suf : Ln) : ∀ (pre : Ln) (acc : List Int), l0 = pre ++ suf → l0.length ≤ 1048576 → acc.length + suf.length ≤ 1048576 →
    loopO (tier_Blocks.l1 l0) (acc, (pre.length : Int)) = some (acc ++ suf.map (fun x => x.2.1)) := by
  induction suf with
  | nil => intro pre acc h hn _; rw [loopO_eq]; simp [tier_Blocks.l1, h]
  | cons x rest ih =>
    intro pre acc h hn ha
    have hl : l0.length = pre.length + rest.length + 1 := by rw [h]; simp; omega
    have hlt : (pre.length : Int) < (l0.length : Int) := by omega
    have g : l0.getD ((pre.length : Int)).toNat (0, (0, 0)) = x := by rw [h]; exact getD_pre _ _ _ _
    have e2 : IntKind.i64.wrap ((pre.length : Int) + 1) = ((pre ++ [x]).length : Nat) := by rw [wr _ (by omega) (by omega)]; simp
    have hacc : ∀ z : Int, acc.length + [z].length ≤ 1099511627776 := fun z => by simp at ha ⊢; omega
    rw [loopO_eq]
    simp only [tier_Blocks.l1, hlt, g, e2, decide_true, cond_true, Int.natCast_nonneg, Bool.and_self, Option.bind_some, hacc]
    rw [ih (pre ++ [x]) (acc ++ [x.2.1]) (by rw [h]; simp) hn (by simp at ha ⊢; omega)]
    simp
theorem ref_bl_loop (l0 : Ln) (suf : Ln) : ∀ (pre : Ln) (acc : List Int), l0 = pre ++ suf → l0.length ≤ 1048576 → acc.length + suf.length ≤ 1048576 →
    loopO (purserref10_Blocks.l1 l0) (acc, (pre.length : Int)) = some (acc ++ suf.map (fun x => x.2.1)) := by
  induction suf with
  | nil => intro pre acc h hn _; rw [loopO_eq]; simp [purserref10_Blocks.l1, h]
  | cons x rest ih =>
    intro pre acc h hn ha
    have hl : l0.length = pre.length + rest.length + 1 := by rw [h]; simp; omega
    have hlt : (pre.length : Int) < (l0.length : Int) := by omega
    have g : l0.getD ((pre.length : Int)).toNat (0, (0, 0)) = x := by rw [h]; exact getD_pre _ _ _ _
    have e2 : IntKind.i64.wrap ((pre.length : Int) + 1) = ((pre ++ [x]).length : Nat) := by rw [wr _ (by omega) (by omega)]; simp
    have hacc : ∀ z : Int, acc.length + [z].length ≤ 1099511627776 := fun z => by simp at ha ⊢; omega
    rw [loopO_eq]
    simp only [purserref10_Blocks.l1, hlt, g, e2, decide_true, cond_true, Int.natCast_nonneg, Bool.and_self, Option.bind_some, hacc]
    rw [ih (pre ++ [x]) (acc ++ [x.2.1]) (by rw [h]; simp) hn (by simp at ha ⊢; omega)]
    simp
theorem own_blocks (l : Ln) (hl : l.length ≤ 1048576) (h : ∀ x ∈ l, i64 x.2.1 ∧ i64 x.2.2) : tier_Blocks.f l = some (FI (bl l)) := by
  have h1 : loopO (tier_Blocks.l1 l) ([], 0) = some ([] ++ l.map (fun x => x.2.1)) := own_bl_loop l l [] [] rfl hl (by simpa using hl)
  simp only [tier_Blocks.f, h1, Option.bind_some, List.nil_append]
  rw [sum_eq _ (by simpa using hl) (fun x hx => by
    obtain ⟨y, hy, rfl⟩ := List.mem_map.1 hx
    exact (h y hy).1)]
  rfl
theorem ref_blocks (l : Ln) (hl : l.length ≤ 1048576) (h : ∀ x ∈ l, i64 x.2.1 ∧ i64 x.2.2) : purserref10_Blocks.f l = some (FI (bl l)) := by
  have h1 : loopO (purserref10_Blocks.l1 l) ([], 0) = some ([] ++ l.map (fun x => x.2.1)) := ref_bl_loop l l [] [] rfl hl (by simpa using hl)
  simp only [purserref10_Blocks.f, h1, Option.bind_some, List.nil_append]
  rw [ref_sum _ (by simpa using hl) (fun x hx => by
    obtain ⟨y, hy, rfl⟩ := List.mem_map.1 hx
    exact (h y hy).1)]
  rfl
theorem few_eq (l : Ln) : purserlaw10_few.f l = some (l.take 12) := by
  have h : (if (12 : Int) < (l.length : Int) then 12 else (l.length : Int)).toNat = min 12 l.length := by split <;> omega
  have h1 : 0 ≤ (if (12 : Int) < (l.length : Int) then 12 else (l.length : Int)) := by split <;> omega
  have h2 : (if (12 : Int) < (l.length : Int) then 12 else (l.length : Int)) ≤ (l.length : Int) := by split <;> omega
  have h3 : l.take (min 12 l.length) = l.take 12 := by
    rw [List.take_eq_take_iff]; omega
  simp only [purserlaw10_few.f, h1, h2, h, decide_true, cond_true, h3, Int.toNat_zero, Int.le_refl, Bool.and_self, List.drop_zero, List.nil_append]
  have h4 : ([] : Ln).length + (l.take 12).length ≤ 1099511627776 := by simp; omega
  rw [decide_eq_true h4]
  rfl
theorem wf64 {n : Int} (h : (Lit.int .i64 n).wf = true) : i64 n := by
  have : (-9223372036854775808 : Int) = IntKind.i64.min ∧ (9223372036854775807 : Int) = IntKind.i64.max := by decide
  unfold i64
  rw [this.1, this.2]
  simpa [Lit.wf] using h
end Go.Proofs.Ytijpigojhildgaa.Pure
