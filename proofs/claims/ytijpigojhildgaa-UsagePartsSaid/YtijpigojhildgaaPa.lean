/- Plain laws of sums and products (arith): each says what the program's function answers, for all ints. -/
import Derived.Test.YtijpigojhildgaaPm
namespace Go.Proofs.Ytijpigojhildgaa.Pure
open Go.Vk Go.Proofs.Ytijpigojhildgaa.Y
set_option linter.unusedVariables false
set_option linter.unusedSimpArgs false

theorem uw (n : Int) (h : 0 ≤ n) (h' : n ≤ 18446744073709551615) : IntKind.u64.wrap n = n := IntWalk.u64_in n ⟨h, h'⟩
theorem mask32 (x : Int) (h : 0 ≤ x) (h' : x ≤ 18446744073709551615) : (((BitVec.ofInt (IntKind.bits .u64) x &&& BitVec.ofInt (IntKind.bits .u64) 4294967295) : BitVec (IntKind.bits .u64)).toNat : Int) = x % 4294967296 := by
  obtain ⟨n, rfl⟩ := Int.eq_ofNat_of_zero_le h
  have e1 : (BitVec.ofInt (IntKind.bits .u64) (n : Int)).toNat = n := by
    rw [BitVec.ofInt_natCast, BitVec.toNat_ofNat]
    exact Nat.mod_eq_of_lt (by show n < 2 ^ 64; omega)
  have e2 : (BitVec.ofInt (IntKind.bits .u64) (4294967295 : Int)).toNat = 2 ^ 32 - 1 := by decide
  rw [BitVec.toNat_and, e1, e2, Nat.and_two_pow_sub_one_eq_mod]
  omega
theorem sh32 (x : Int) : Int.fdiv x (2 ^ 32) = x / 4294967296 := by rw [Int.fdiv_eq_ediv_of_nonneg _ (by decide)]; rfl
theorem sh63 (x : Int) : Int.fdiv x (2 ^ 63) = x / 9223372036854775808 := by rw [Int.fdiv_eq_ediv_of_nonneg _ (by decide)]; rfl
theorem mul_le (a b : Int) (ha : 0 ≤ a) (ha' : a ≤ 4294967295) (hb : 0 ≤ b) (hb' : b ≤ 4294967295) : 0 ≤ a * b ∧ a * b ≤ 18446744065119617025 :=
  ⟨Int.mul_nonneg ha hb, Int.le_trans (Int.mul_le_mul ha' hb' hb (by omega)) (by decide)⟩
def fits (n : Int) : Bool := decide (-9223372036854775808 ≤ n ∧ n ≤ 9223372036854775807)
/-- A number, if it is an int. -/
def FI (n : Int) : Int × Bool := if -9223372036854775808 ≤ n ∧ n ≤ 9223372036854775807 then (n, true) else (0, false)
def sumL : List Int → Int
  | [] => 0
  | x :: l => x + sumL l
theorem sum_loop (l0 : List Int) (suf : List Int) : ∀ (pre : List Int) (S : Int), l0 = pre ++ suf → l0.length ≤ 1099511627776 → (∀ x ∈ suf, -9223372036854775808 ≤ x ∧ x ≤ 9223372036854775807) →
    loopO (arith_Sum.l1 l0) (S / 18446744073709551616 % 18446744073709551616, S % 18446744073709551616, (pre.length : Int)) = some ((S + sumL suf) / 18446744073709551616 % 18446744073709551616, (S + sumL suf) % 18446744073709551616) := by
  induction suf with
  | nil =>
    intro pre S h hn _
    rw [loopO_eq]
    simp [arith_Sum.l1, h, sumL]
  | cons x rest ih =>
    intro pre S h hn hx
    obtain ⟨x1, x2⟩ := hx x (by simp)
    have hl : l0.length = pre.length + rest.length + 1 := by rw [h]; simp; omega
    have hlt : (pre.length : Int) < (l0.length : Int) := by omega
    have g : l0.getD ((pre.length : Int)).toNat 0 = x := by rw [h]; exact getD_pre _ _ _ _
    have e2 : IntKind.i64.wrap ((pre.length : Int) + 1) = ((pre ++ [x]).length : Nat) := by rw [wr _ (by omega) (by omega)]; simp
    have hw : IntKind.u64.wrap x = x % 18446744073709551616 := IntKind.wrap_u64 x
    rw [loopO_eq]
    simp only [arith_Sum.l1, hlt, g, e2, decide_true, cond_true, Int.natCast_nonneg, Bool.and_self, Option.bind_some, hw]
    have key : (IntKind.u64.wrap (S / 18446744073709551616 % 18446744073709551616 + IntKind.u64.wrap (IntKind.u64.wrap (Int.fdiv x (2 ^ 63)) + Int.ofNat (((S % 18446744073709551616).toNat + (x % 18446744073709551616).toNat + 0) / 2 ^ 64))),
        Int.ofNat (((S % 18446744073709551616).toNat + (x % 18446744073709551616).toNat + 0) % 2 ^ 64), (((pre ++ [x]).length : Nat) : Int)) = ((S + x) / 18446744073709551616 % 18446744073709551616, (S + x) % 18446744073709551616, (((pre ++ [x]).length : Nat) : Int)) := by
      rw [sh63, IntKind.wrap_u64, IntKind.wrap_u64, IntKind.wrap_u64]
      have p64 : (2 : Nat) ^ 64 = 18446744073709551616 := by decide
      rw [p64]
      have hS := Int.emod_nonneg S (show (18446744073709551616 : Int) ≠ 0 by decide)
      have hX := Int.emod_nonneg x (show (18446744073709551616 : Int) ≠ 0 by decide)
      have hn : ∀ n : Nat, Int.ofNat n = (n : Int) := fun n => rfl
      simp only [hn, Nat.add_zero]
      have e3 : ((((S % 18446744073709551616).toNat + (x % 18446744073709551616).toNat) / 18446744073709551616 : Nat) : Int) = (S % 18446744073709551616 + x % 18446744073709551616) / 18446744073709551616 := by omega
      have e4 : ((((S % 18446744073709551616).toNat + (x % 18446744073709551616).toNat) % 18446744073709551616 : Nat) : Int) = (S % 18446744073709551616 + x % 18446744073709551616) % 18446744073709551616 := by omega
      rw [e3, e4]
      have f1 : (S % 18446744073709551616 + x % 18446744073709551616) % 18446744073709551616 = (S + x) % 18446744073709551616 := by omega
      have f2 : (S / 18446744073709551616 % 18446744073709551616 + (x / 9223372036854775808 % 18446744073709551616 + (S % 18446744073709551616 + x % 18446744073709551616) / 18446744073709551616) % 18446744073709551616) % 18446744073709551616 = (S + x) / 18446744073709551616 % 18446744073709551616 := by omega
      rw [f1, f2]
    rw [key]
    have := ih (pre ++ [x]) (S + x) (by rw [h]; simp) hn (fun y hy => hx y (by simp [hy]))
    rw [this]
    simp only [sumL, Int.add_assoc]
theorem sumL_bound (B : Int) (l : List Int) (h : ∀ x ∈ l, -B ≤ x ∧ x ≤ B) : -(B * l.length) ≤ sumL l ∧ sumL l ≤ B * l.length := by
  induction l with
  | nil => simp [sumL]
  | cons x l ih =>
    have h1 := h x (by simp)
    have h2 := ih (fun y hy => h y (by simp [hy]))
    simp only [sumL, List.length_cons, Int.natCast_add, Int.mul_add]
    omega
theorem sum_eq (l : List Int) (hl : l.length ≤ 1048576) (h : ∀ x ∈ l, -9223372036854775808 ≤ x ∧ x ≤ 9223372036854775807) : arith_Sum.f l = some (FI (sumL l)) := by
  have h1 := sum_loop l l [] 0 rfl (by omega) h
  have hb := sumL_bound 9223372036854775808 l (fun x hx => by have := h x hx; omega)
  have hbl : (9223372036854775808 : Int) * l.length ≤ 9223372036854775808 * 1048576 := Int.mul_le_mul_of_nonneg_left (by omega) (by decide)
  have h1 : loopO (arith_Sum.l1 l) (0, 0, 0) = some (sumL l / 18446744073709551616 % 18446744073709551616, sumL l % 18446744073709551616) := by simpa using h1
  simp only [arith_Sum.f, h1, Option.bind_some, sh63]
  generalize sumL l = S at *
  unfold FI
  rw [IntKind.wrap_i64, IntKind.wrap_u64]
  have hS : S = S / 18446744073709551616 * 18446744073709551616 + S % 18446744073709551616 := by omega
  have hlo : 0 ≤ S % 18446744073709551616 ∧ S % 18446744073709551616 < 18446744073709551616 := by omega
  have hhi : -1048577 ≤ S / 18446744073709551616 ∧ S / 18446744073709551616 ≤ 1048577 := by omega
  generalize S / 18446744073709551616 = hi at *
  generalize S % 18446744073709551616 = lo at *
  by_cases hc : lo < 9223372036854775808
  · have e1 : (lo + 9223372036854775808) % 18446744073709551616 - 9223372036854775808 = lo := by omega
    rw [e1]
    have e2 : lo / 9223372036854775808 = 0 := by omega
    rw [e2]
    by_cases hf : hi = 0
    · have : (hi % 18446744073709551616 != 0 % 18446744073709551616) = false := by simp [hf]
      rw [this, cond_false, if_pos (by omega)]
      congr 2
      omega
    · have : (hi % 18446744073709551616 != 0 % 18446744073709551616) = true := by simp only [bne_iff_ne]; omega
      rw [this, cond_true, if_neg (by omega)]
  · have e1 : (lo + 9223372036854775808) % 18446744073709551616 - 9223372036854775808 = lo - 18446744073709551616 := by omega
    rw [e1]
    have e2 : (lo - 18446744073709551616) / 9223372036854775808 = -1 := by omega
    rw [e2]
    by_cases hf : hi = -1
    · have : (hi % 18446744073709551616 != -1 % 18446744073709551616) = false := by simp [hf]
      rw [this, cond_false, if_pos (by omega)]
      congr 2
      omega
    · have : (hi % 18446744073709551616 != -1 % 18446744073709551616) = true := by simp only [bne_iff_ne]; omega
      rw [this, cond_true, if_neg (by omega)]
end Go.Proofs.Ytijpigojhildgaa.Pure
