/- Plain laws of sums and products (arith): each says what the program's function answers, for all ints. -/
import Derived.Test.YtencgpidlklenaaPm
namespace Go.Proofs.Ytencgpidlklenaa.Pure
open Go.Vk Go.Proofs.Ytencgpidlklenaa.Y
set_option linter.unusedVariables false
set_option linter.unusedSimpArgs false

theorem uw (n : Int) (h : 0 ≤ n) (h' : n ≤ 18446744073709551615) : IntKind.u64.wrap n = n := IntWalk.u64_in n ⟨h, h'⟩
theorem mask32 (x : Int) (h : 0 ≤ x) (h' : x ≤ 18446744073709551615) : (((BitVec.ofInt (IntKind.bits .u64) x &&& BitVec.ofInt (IntKind.bits .u64) 4294967295) : BitVec (IntKind.bits .u64)).toNat : Int) = x % 4294967296 := by
  obtain ⟨n, rfl⟩ := Int.eq_ofNat_of_zero_le h
  have e1 : (BitVec.ofInt (IntKind.bits .u64) (n : Int)).toNat = n := by
    rw [BitVec.ofInt_natCast, BitVec.toNat_ofNat]
    exact Nat.mod_eq_of_lt (by show n < 2 ^ 64; omega)
  have e2 : (BitVec.ofInt (IntKind.bits .u64) (4294967295 : Int)).toNat = 2 ^ 32 - 1 := by decide
  rw [BitVec.toNat_and, e1, e2, Nat.and_two_pow_sub_one_eq_mod]
  omega
theorem sh32 (x : Int) : Int.fdiv x (2 ^ 32) = x / 4294967296 := by rw [Int.fdiv_eq_ediv_of_nonneg _ (by decide)]; rfl
theorem sh63 (x : Int) : Int.fdiv x (2 ^ 63) = x / 9223372036854775808 := by rw [Int.fdiv_eq_ediv_of_nonneg _ (by decide)]; rfl
theorem mul_le (a b : Int) (ha : 0 ≤ a) (ha' : a ≤ 4294967295) (hb : 0 ≤ b) (hb' : b ≤ 4294967295) : 0 ≤ a * b ∧ a * b ≤ 18446744065119617025 :=
  ⟨Int.mul_nonneg ha hb, Int.le_trans (Int.mul_le_mul ha' hb' hb (by omega)) (by decide)⟩
theorem mul64 (x y : Int) (hx : 0 ≤ x) (hx' : x ≤ 18446744073709551615) (hy : 0 ≤ y) (hy' : y ≤ 18446744073709551615) :
    bits_Mul64.f x y = some (x * y / 18446744073709551616, x * y % 18446744073709551616) := by
  have x0 : 0 ≤ x / 4294967296 ∧ x / 4294967296 ≤ 4294967295 := by omega
  have x1 : 0 ≤ x % 4294967296 ∧ x % 4294967296 ≤ 4294967295 := by omega
  have y0 : 0 ≤ y / 4294967296 ∧ y / 4294967296 ≤ 4294967295 := by omega
  have y1 : 0 ≤ y % 4294967296 ∧ y % 4294967296 ≤ 4294967295 := by omega
  have hp := mul_le (x % 4294967296) (y % 4294967296) x1.1 x1.2 y1.1 y1.2
  have hq := mul_le (x / 4294967296) (y % 4294967296) x0.1 x0.2 y1.1 y1.2
  have hr := mul_le (x % 4294967296) (y / 4294967296) x1.1 x1.2 y0.1 y0.2
  have hs := mul_le (x / 4294967296) (y / 4294967296) x0.1 x0.2 y0.1 y0.2
  have hxy : x * y = (x / 4294967296) * (y / 4294967296) * 18446744073709551616 + ((x / 4294967296) * (y % 4294967296) + (x % 4294967296) * (y / 4294967296)) * 4294967296 + (x % 4294967296) * (y % 4294967296) := by
    have ex : x = 4294967296 * (x / 4294967296) + x % 4294967296 := by omega
    have ey : y = 4294967296 * (y / 4294967296) + y % 4294967296 := by omega
    generalize x / 4294967296 = a at *
    generalize x % 4294967296 = b at *
    generalize y / 4294967296 = c at *
    generalize y % 4294967296 = d at *
    subst ex ey
    simp only [Int.mul_add, Int.add_mul]
    have e1 : 4294967296 * a * (4294967296 * c) = a * c * 18446744073709551616 := by
      rw [Int.mul_assoc, Int.mul_left_comm a, ← Int.mul_assoc]; omega
    have e2 : b * (4294967296 * c) = b * c * 4294967296 := by rw [Int.mul_left_comm]; omega
    have e3 : 4294967296 * a * d = a * d * 4294967296 := by rw [Int.mul_assoc]; omega
    rw [e1, e2, e3]
    omega
  have wr0 : ∀ n : Int, IntKind.u64.wrap n = n % 18446744073709551616 := fun n => IntKind.wrap_u64 n
  simp only [bits_Mul64.f, sh32, mask32 x hx hx', mask32 y hy hy', wr0]
  rw [hxy]
  have m1 : (x % 4294967296) % 18446744073709551616 = x % 4294967296 := Int.emod_eq_of_lt (by omega) (by omega)
  have m2 : (y % 4294967296) % 18446744073709551616 = y % 4294967296 := Int.emod_eq_of_lt (by omega) (by omega)
  rw [m1, m2]
  generalize (x % 4294967296) * (y % 4294967296) = p at *
  generalize (x / 4294967296) * (y % 4294967296) = q at *
  generalize (x % 4294967296) * (y / 4294967296) = r at *
  generalize (x / 4294967296) * (y / 4294967296) = s at *
  have ep : p % 18446744073709551616 = p := Int.emod_eq_of_lt (by omega) (by omega)
  have eq' : q % 18446744073709551616 = q := Int.emod_eq_of_lt (by omega) (by omega)
  have er : r % 18446744073709551616 = r := Int.emod_eq_of_lt (by omega) (by omega)
  have es : s % 18446744073709551616 = s := Int.emod_eq_of_lt (by omega) (by omega)
  have et : (q + p / 4294967296) % 18446744073709551616 = q + p / 4294967296 := Int.emod_eq_of_lt (by omega) (by omega)
  simp only [ep, eq', er, es, et]
  rw [mask32 (q + p / 4294967296) (by omega) (by omega)]
  simp only [Option.some.injEq, Prod.mk.injEq]
  constructor
  · omega
  · trivial
theorem size_eq (n : Int) (h : -9223372036854775808 ≤ n) (h' : n ≤ 9223372036854775807) : arith_size.f n = some (if n < 0 then -n else n) := by
  unfold arith_size.f
  rw [bt]
  by_cases hn : n < 0
  · rw [if_pos hn, if_pos hn, IntKind.wrap_u64, IntKind.wrap_u64]
    congr 1
    omega
  · rw [if_neg hn, if_neg hn, uw n (by omega) (by omega)]
def fits (n : Int) : Bool := decide (-9223372036854775808 ≤ n ∧ n ≤ 9223372036854775807)
/-- A number, if it is an int. -/
def FI (n : Int) : Int × Bool := if -9223372036854775808 ≤ n ∧ n ≤ 9223372036854775807 then (n, true) else (0, false)
theorem mul_eq (a b : Int) (ha : -9223372036854775808 ≤ a) (ha' : a ≤ 9223372036854775807) (hb : -9223372036854775808 ≤ b) (hb' : b ≤ 9223372036854775807) : arith_Mul.f a b = some (FI (a * b)) := by
  have hx : 0 ≤ (if a < 0 then -a else a) ∧ (if a < 0 then -a else a) ≤ 9223372036854775808 := by split <;> omega
  have hy : 0 ≤ (if b < 0 then -b else b) ∧ (if b < 0 then -b else b) ≤ 9223372036854775808 := by split <;> omega
  have hab : a * b = if (decide (a < 0) != decide (b < 0)) then -((if a < 0 then -a else a) * (if b < 0 then -b else b)) else (if a < 0 then -a else a) * (if b < 0 then -b else b) := by
    by_cases h1 : a < 0 <;> by_cases h2 : b < 0 <;> simp [h1, h2, Int.neg_mul, Int.mul_neg, Int.neg_neg]
  simp only [arith_Mul.f, size_eq a ha ha', size_eq b hb hb', Option.bind_some, mul64 _ _ hx.1 (by omega) hy.1 (by omega)]
  have hP : 0 ≤ (if a < 0 then -a else a) * (if b < 0 then -b else b) := Int.mul_nonneg hx.1 hy.1
  have hP' : (if a < 0 then -a else a) * (if b < 0 then -b else b) ≤ 9223372036854775808 * 9223372036854775808 := Int.mul_le_mul hx.2 hy.2 hy.1 (by omega)
  rw [hab]
  generalize (if a < 0 then -a else a) * (if b < 0 then -b else b) = p at *
  generalize (decide (a < 0) != decide (b < 0)) = m at *
  unfold FI
  by_cases h1 : p / 18446744073709551616 = 0
  · have h1' : (p / 18446744073709551616 != 0) = false := by simp [h1]
    have hp : p % 18446744073709551616 = p := by omega
    rw [h1', cond_false, hp]
    cases m with
    | true =>
      simp only [if_true, cond_true, Option.bind_some]
      by_cases h2 : p = 9223372036854775808
      · subst h2; rfl
      · have h2' : (p == 9223372036854775808) = false := by simpa using h2
        rw [h2', cond_false, bt]
        by_cases h3 : p ≥ 9223372036854775808
        · rw [if_pos h3, if_neg (by omega)]
        · rw [if_neg h3, if_pos (by omega), wr p (by omega) (by omega), wr (0 - p) (by omega) (by omega), Int.zero_sub]
    | false =>
      simp only [Bool.false_eq_true, if_false, cond_false, Option.bind_some]
      rw [bt]
      by_cases h3 : p ≥ 9223372036854775808
      · rw [if_pos h3, if_neg (by omega)]
      · rw [if_neg h3, if_pos (by omega), wr p (by omega) (by omega)]
  · have h1' : (p / 18446744073709551616 != 0) = true := by simpa using h1
    rw [h1', cond_true]
    cases m with
    | true => rw [if_neg (by simp only [if_true]; omega)]
    | false => rw [if_neg (by simp only [Bool.false_eq_true, if_false]; omega)]

def sumL : List Int → Int
  | [] => 0
  | x :: l => x + sumL l
theorem sum_loop (l0 : List Int) (suf : List Int) : ∀ (pre : List Int) (S : Int), l0 = pre ++ suf → l0.length ≤ 1099511627776 → (∀ x ∈ suf, -9223372036854775808 ≤ x ∧ x ≤ 9223372036854775807) →
    loopO (arith_Sum.l1 l0) (S / 18446744073709551616 % 18446744073709551616, S % 18446744073709551616, (pre.length : Int)) = some ((S + sumL suf) / 18446744073709551616 % 18446744073709551616, (S + sumL suf) % 18446744073709551616) := by
  induction suf with
  | nil =>
    intro pre S h hn _
    rw [loopO_eq]
    simp [arith_Sum.l1, h, sumL]
  | cons x rest ih =>
    intro pre S h hn hx
    obtain ⟨x1, x2⟩ := hx x (by simp)
    have hl : l0.length = pre.length + rest.length + 1 := by rw [h]; simp; omega
    have hlt : (pre.length : Int) < (l0.length : Int) := by omega
    have g : l0.getD ((pre.length : Int)).toNat 0 = x := by rw [h]; exact getD_pre _ _ _ _
    have e2 : IntKind.i64.wrap ((pre.length : Int) + 1) = ((pre ++ [x]).length : Nat) := by rw [wr _ (by omega) (by omega)]; simp
    have hw : IntKind.u64.wrap x = x % 18446744073709551616 := IntKind.wrap_u64 x
    rw [loopO_eq]
    simp only [arith_Sum.l1, hlt, g, e2, decide_true, cond_true, Int.natCast_nonneg, Bool.and_self, Option.bind_some, hw]
    have key : (IntKind.u64.wrap (S / 18446744073709551616 % 18446744073709551616 + IntKind.u64.wrap (IntKind.u64.wrap (Int.fdiv x (2 ^ 63)) + Int.ofNat (((S % 18446744073709551616).toNat + (x % 18446744073709551616).toNat + 0) / 2 ^ 64))),
        Int.ofNat (((S % 18446744073709551616).toNat + (x % 18446744073709551616).toNat + 0) % 2 ^ 64), (((pre ++ [x]).length : Nat) : Int)) = ((S + x) / 18446744073709551616 % 18446744073709551616, (S + x) % 18446744073709551616, (((pre ++ [x]).length : Nat) : Int)) := by
      rw [sh63, IntKind.wrap_u64, IntKind.wrap_u64, IntKind.wrap_u64]
      have p64 : (2 : Nat) ^ 64 = 18446744073709551616 := by decide
      rw [p64]
      have hS := Int.emod_nonneg S (show (18446744073709551616 : Int) ≠ 0 by decide)
      have hX := Int.emod_nonneg x (show (18446744073709551616 : Int) ≠ 0 by decide)
      have hn : ∀ n : Nat, Int.ofNat n = (n : Int) := fun n => rfl
      simp only [hn, Nat.add_zero]
      have e3 : ((((S % 18446744073709551616).toNat + (x % 18446744073709551616).toNat) / 18446744073709551616 : Nat) : Int) = (S % 18446744073709551616 + x % 18446744073709551616) / 18446744073709551616 := by omega
      have e4 : ((((S % 18446744073709551616).toNat + (x % 18446744073709551616).toNat) % 18446744073709551616 : Nat) : Int) = (S % 18446744073709551616 + x % 18446744073709551616) % 18446744073709551616 := by omega
      rw [e3, e4]
      have f1 : (S % 18446744073709551616 + x % 18446744073709551616) % 18446744073709551616 = (S + x) % 18446744073709551616 := by omega
      have f2 : (S / 18446744073709551616 % 18446744073709551616 + (x / 9223372036854775808 % 18446744073709551616 + (S % 18446744073709551616 + x % 18446744073709551616) / 18446744073709551616) % 18446744073709551616) % 18446744073709551616 = (S + x) / 18446744073709551616 % 18446744073709551616 := by omega
      rw [f1, f2]
    rw [key]
    have := ih (pre ++ [x]) (S + x) (by rw [h]; simp) hn (fun y hy => hx y (by simp [hy]))
    rw [this]
    simp only [sumL, Int.add_assoc]
theorem sumL_bound (B : Int) (l : List Int) (h : ∀ x ∈ l, -B ≤ x ∧ x ≤ B) : -(B * l.length) ≤ sumL l ∧ sumL l ≤ B * l.length := by
  induction l with
  | nil => simp [sumL]
  | cons x l ih =>
    have h1 := h x (by simp)
    have h2 := ih (fun y hy => h y (by simp [hy]))
    simp only [sumL, List.length_cons, Int.natCast_add, Int.mul_add]
    omega
theorem sum_eq (l : List Int) (hl : l.length ≤ 1048576) (h : ∀ x ∈ l, -9223372036854775808 ≤ x ∧ x ≤ 9223372036854775807) : arith_Sum.f l = some (FI (sumL l)) := by
  have h1 := sum_loop l l [] 0 rfl (by omega) h
  have hb := sumL_bound 9223372036854775808 l (fun x hx => by have := h x hx; omega)
  have hbl : (9223372036854775808 : Int) * l.length ≤ 9223372036854775808 * 1048576 := Int.mul_le_mul_of_nonneg_left (by omega) (by decide)
  have h1 : loopO (arith_Sum.l1 l) (0, 0, 0) = some (sumL l / 18446744073709551616 % 18446744073709551616, sumL l % 18446744073709551616) := by simpa using h1
  simp only [arith_Sum.f, h1, Option.bind_some, sh63]
  generalize sumL l = S at *
  unfold FI
  rw [IntKind.wrap_i64, IntKind.wrap_u64]
  have hS : S = S / 18446744073709551616 * 18446744073709551616 + S % 18446744073709551616 := by omega
  have hlo : 0 ≤ S % 18446744073709551616 ∧ S % 18446744073709551616 < 18446744073709551616 := by omega
  have hhi : -1048577 ≤ S / 18446744073709551616 ∧ S / 18446744073709551616 ≤ 1048577 := by omega
  generalize S / 18446744073709551616 = hi at *
  generalize S % 18446744073709551616 = lo at *
  by_cases hc : lo < 9223372036854775808
  · have e1 : (lo + 9223372036854775808) % 18446744073709551616 - 9223372036854775808 = lo := by omega
    rw [e1]
    have e2 : lo / 9223372036854775808 = 0 := by omega
    rw [e2]
    by_cases hf : hi = 0
    · have : (hi % 18446744073709551616 != 0 % 18446744073709551616) = false := by simp [hf]
      rw [this, cond_false, if_pos (by omega)]
      congr 2
      omega
    · have : (hi % 18446744073709551616 != 0 % 18446744073709551616) = true := by simp only [bne_iff_ne]; omega
      rw [this, cond_true, if_neg (by omega)]
  · have e1 : (lo + 9223372036854775808) % 18446744073709551616 - 9223372036854775808 = lo - 18446744073709551616 := by omega
    rw [e1]
    have e2 : (lo - 18446744073709551616) / 9223372036854775808 = -1 := by omega
    rw [e2]
    by_cases hf : hi = -1
    · have : (hi % 18446744073709551616 != -1 % 18446744073709551616) = false := by simp [hf]
      rw [this, cond_false, if_pos (by omega)]
      congr 2
      omega
    · have : (hi % 18446744073709551616 != -1 % 18446744073709551616) = true := by simp only [bne_iff_ne]; omega
      rw [this, cond_true, if_neg (by omega)]
end Go.Proofs.Ytencgpidlklenaa.Pure
