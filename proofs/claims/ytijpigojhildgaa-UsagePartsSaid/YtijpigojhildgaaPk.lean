/- Plain laws: numbers as groups of seven bits, bits of machine words, strings as bytes. No statement of its own. -/
import Derived.Test.YtijpigojhildgaaPg
import Derived.Test.YtijpigojhildgaaAmB
namespace Go.Pg
open Go.Vk Go.Am
set_option linter.unusedVariables false
set_option linter.unusedSimpArgs false

/-- The groups of a number. -/
def gr (u : Nat) : List Int := if h : u < 128 then [(u : Int)] else ((u % 128 + 128 : Nat) : Int) :: gr (u / 128)
termination_by u
decreasing_by omega
theorem gr_lo {u : Nat} (h : u < 128) : gr u = [(u : Int)] := by rw [gr, dif_pos h]
theorem gr_hi {u : Nat} (h : ¬ u < 128) : gr u = ((u % 128 + 128 : Nat) : Int) :: gr (u / 128) := by rw [gr, dif_neg h]
theorem gr_pos (u : Nat) : 1 ≤ (gr u).length := by
  by_cases h : u < 128
  · rw [gr_lo h]; simp
  · rw [gr_hi h]; simp
theorem gr_len : ∀ (k u : Nat), u < 128 ^ (k + 1) → (gr u).length ≤ k + 1
  | 0, u, h => by rw [gr_lo (by simpa using h)]; simp
  | k + 1, u, h => by
    by_cases hu : u < 128
    · rw [gr_lo hu]; simp
    · rw [gr_hi hu]
      have := gr_len k (u / 128) (by rw [Nat.div_lt_iff_lt_mul (by decide)]; rw [Nat.pow_succ] at h; exact h)
      simp; omega
theorem gr_byte : ∀ (k u : Nat), u < 128 ^ (k + 1) → ∀ x ∈ gr u, 0 ≤ x ∧ x ≤ 255
  | 0, u, h, x, hx => by
    rw [gr_lo (by simpa using h)] at hx
    simp at hx
    have : u < 128 := by simpa using h
    omega
  | k + 1, u, h, x, hx => by
    by_cases hu : u < 128
    · rw [gr_lo hu] at hx
      simp at hx
      omega
    · rw [gr_hi hu] at hx
      rcases List.mem_cons.1 hx with rfl | hx
      · omega
      · exact gr_byte k (u / 128) (by rw [Nat.div_lt_iff_lt_mul (by decide)]; rw [Nat.pow_succ] at h; exact h) x hx

/-! ### bits -/
set_option maxRecDepth 20000 in
theorem or128 : ∀ m : Nat, m < 256 → m ||| 128 = m % 128 + 128 := by decide
set_option maxRecDepth 20000 in
theorem and127 : ∀ m : Nat, m < 256 → m &&& 127 = m % 128 := by decide
theorem b_more (s : Int) (h : 0 ≤ s) : (IntKind.u8.wrap (((BitVec.ofInt (IntKind.bits .u8) (IntKind.u8.wrap s) ||| BitVec.ofInt (IntKind.bits .u8) 128) : BitVec (IntKind.bits .u8)).toNat : Int)) = s % 128 + 128 := by
  have e : ((BitVec.ofInt (IntKind.bits .u8) (IntKind.u8.wrap s) ||| BitVec.ofInt (IntKind.bits .u8) 128) : BitVec (IntKind.bits .u8)).toNat = (s % 256).toNat ||| 128 := by
    rw [BitVec.toNat_or, BitVec.toNat_ofInt, BitVec.toNat_ofInt, IntKind.wrap_u8]
    have e1 : ((2 ^ IntKind.bits .u8 : Nat) : Int) = 256 := by decide
    rw [e1]
    congr 1
    omega
  rw [e, or128 _ (by omega), IntKind.wrap_u8]
  omega
theorem b_less (x : Int) (h : 0 ≤ x) (h' : x ≤ 255) : (IntKind.u8.wrap (((BitVec.ofInt (IntKind.bits .u8) x &&& ~~~(BitVec.ofInt (IntKind.bits .u8) 128)) : BitVec (IntKind.bits .u8)).toNat : Int)) = x % 128 := by
  have e : ((BitVec.ofInt (IntKind.bits .u8) x &&& ~~~(BitVec.ofInt (IntKind.bits .u8) 128)) : BitVec (IntKind.bits .u8)).toNat = x.toNat &&& 127 := by
    have e2 : (~~~(BitVec.ofInt (IntKind.bits .u8) 128)).toNat = 127 := by decide
    rw [BitVec.toNat_and, BitVec.toNat_ofInt, e2]
    have e1 : ((2 ^ IntKind.bits .u8 : Nat) : Int) = 256 := by decide
    rw [e1]
    congr 1
    omega
  rw [e, and127 _ (by omega), IntKind.wrap_u8]
  omega
theorem b_or (u y k : Nat) (h : u < 2 ^ k) (h' : u + y * 2 ^ k < 2 ^ 64) : (((BitVec.ofInt (IntKind.bits .u64) (u : Int) ||| BitVec.ofInt (IntKind.bits .u64) ((y * 2 ^ k : Nat) : Int)) : BitVec (IntKind.bits .u64)).toNat) = u + y * 2 ^ k := by
  have e1 : ((2 ^ IntKind.bits .u64 : Nat) : Int) = 18446744073709551616 := by decide
  have p64 : (2 : Nat) ^ 64 = 18446744073709551616 := by decide
  rw [BitVec.toNat_or, BitVec.toNat_ofInt, BitVec.toNat_ofInt, e1]
  rw [p64] at h'
  have a1 : ((u : Int) % 18446744073709551616).toNat = u := by omega
  have a2 : (((y * 2 ^ k : Nat) : Int) % 18446744073709551616).toNat = y * 2 ^ k := by omega
  rw [a1, a2, Nat.or_comm, Nat.mul_comm, ← Nat.two_pow_add_eq_or_of_lt h, Nat.add_comm]
/-- A number with its sign, as one without. -/
def zig (n : Int) : Nat := if 0 ≤ n then (2 * n).toNat else (-2 * n - 1).toNat
theorem zig_lt {n : Int} (h : -9223372036854775808 ≤ n) (h' : n ≤ 9223372036854775807) : zig n < 2 ^ 64 := by
  have p64 : (2 : Nat) ^ 64 = 18446744073709551616 := by decide
  unfold zig; split <;> omega
theorem xorZ (x : Int) : ((BitVec.ofInt (IntKind.bits .u64) x ^^^ BitVec.ofInt (IntKind.bits .u64) 0) : BitVec (IntKind.bits .u64)).toNat = (x % 18446744073709551616).toNat := by
  show (BitVec.ofInt 64 x ^^^ BitVec.ofInt 64 0).toNat = _
  have e : BitVec.ofInt 64 0 = BitVec.ofNat 64 0 := by decide
  rw [e, BitVec.xor_zero, BitVec.toNat_ofInt]
  rfl
theorem xorO (x : Int) : ((BitVec.ofInt (IntKind.bits .u64) x ^^^ BitVec.ofInt (IntKind.bits .u64) 18446744073709551615) : BitVec (IntKind.bits .u64)).toNat = 18446744073709551615 - (x % 18446744073709551616).toNat := by
  show (BitVec.ofInt 64 x ^^^ BitVec.ofInt 64 18446744073709551615).toNat = _
  have e : BitVec.ofInt 64 18446744073709551615 = BitVec.allOnes 64 := by decide
  rw [e, BitVec.xor_allOnes, BitVec.toNat_not, BitVec.toNat_ofInt]
  rfl
theorem b_zig (n : Int) (h : -9223372036854775808 ≤ n) (h' : n ≤ 9223372036854775807) : (IntKind.u64.wrap (((BitVec.ofInt (IntKind.bits .u64) (IntKind.u64.wrap ((IntKind.u64.wrap n) * 2 ^ 1)) ^^^ BitVec.ofInt (IntKind.bits .u64) (IntKind.u64.wrap (Int.fdiv n (2 ^ 63)))) : BitVec (IntKind.bits .u64)).toNat : Int)) = (zig n : Int) := by
  have e1 : ((2 ^ IntKind.bits .u64 : Nat) : Int) = 18446744073709551616 := by decide
  have sh : Int.fdiv n (2 ^ 63) = n / 9223372036854775808 := by rw [Int.fdiv_eq_ediv_of_nonneg _ (by decide)]; rfl
  rw [sh]
  by_cases hn : 0 ≤ n
  · have h0 : IntKind.u64.wrap (n / 9223372036854775808) = 0 := by rw [IntKind.wrap_u64]; omega
    rw [h0]
    rw [xorZ]
    simp only [IntKind.wrap_u64]
    unfold zig
    rw [if_pos hn]
    omega
  · have h0 : IntKind.u64.wrap (n / 9223372036854775808) = 18446744073709551615 := by rw [IntKind.wrap_u64]; omega
    rw [h0]
    rw [xorO]
    simp only [IntKind.wrap_u64]
    unfold zig
    rw [if_neg hn]
    omega
theorem b_unzig (n : Int) (h : -9223372036854775808 ≤ n) (h' : n ≤ 9223372036854775807) : (IntKind.i64.wrap (IntKind.u64.wrap (((BitVec.ofInt (IntKind.bits .u64) (Int.fdiv (zig n : Int) (2 ^ 1)) ^^^ BitVec.ofInt (IntKind.bits .u64) (IntKind.u64.wrap (0 - (IntKind.u64.wrap (((BitVec.ofInt (IntKind.bits .u64) (zig n : Int) &&& BitVec.ofInt (IntKind.bits .u64) 1) : BitVec (IntKind.bits .u64)).toNat : Int))))) : BitVec (IntKind.bits .u64)).toNat : Int))) = n := by
  have hz := zig_lt h h'
  have p64 : (2 : Nat) ^ 64 = 18446744073709551616 := by decide
  rw [p64] at hz
  have sh : Int.fdiv (zig n : Int) (2 ^ 1) = (zig n : Int) / 2 := by rw [Int.fdiv_eq_ediv_of_nonneg _ (by decide)]; rfl
  have ha : ((BitVec.ofInt (IntKind.bits .u64) (zig n : Int) &&& BitVec.ofInt (IntKind.bits .u64) 1) : BitVec (IntKind.bits .u64)).toNat = zig n % 2 := by
    show (BitVec.ofInt 64 _ &&& BitVec.ofInt 64 1).toNat = _
    rw [BitVec.toNat_and, BitVec.toNat_ofInt, BitVec.toNat_ofInt]
    have e1 : ((2 ^ 64 : Nat) : Int) = 18446744073709551616 := by decide
    rw [e1]
    have a1 : ((zig n : Int) % 18446744073709551616).toNat = zig n := by omega
    rw [a1]
    show zig n &&& 1 = _
    exact Nat.and_one_is_mod _
  rw [sh, ha]
  by_cases hn : 0 ≤ n
  · have hzz : zig n = (2 * n).toNat := by unfold zig; rw [if_pos hn]
    have h0 : IntKind.u64.wrap (0 - IntKind.u64.wrap ((zig n % 2 : Nat) : Int)) = 0 := by rw [IntKind.wrap_u64, IntKind.wrap_u64]; omega
    rw [h0]
    rw [xorZ]
    rw [IntKind.wrap_u64, IntKind.wrap_i64]
    omega
  · have hzz : zig n = (-2 * n - 1).toNat := by unfold zig; rw [if_neg hn]
    have h0 : IntKind.u64.wrap (0 - IntKind.u64.wrap ((zig n % 2 : Nat) : Int)) = 18446744073709551615 := by rw [IntKind.wrap_u64, IntKind.wrap_u64]; omega
    rw [h0]
    rw [xorO]
    rw [IntKind.wrap_u64, IntKind.wrap_i64]
    omega

/-! ### strings -/
theorem bytesS_eq (xs : List Int) : bytesS xs = ⟨(xs.map fun n => UInt8.ofNat n.toNat).toArray⟩ := by
  have key : ∀ (xs : List Int) (s : ByteArray), xs.foldl (fun s n => s.push (UInt8.ofNat n.toNat)) s = ⟨s.data ++ (xs.map fun n => UInt8.ofNat n.toNat).toArray⟩ := by
    intro xs
    induction xs with
    | nil => intro s; simp
    | cons x xs ih =>
      intro s
      rw [List.foldl_cons, ih]
      congr 1
      show (s.data.push _) ++ _ = _
      simp
  unfold bytesS
  rw [key]
  congr 1
  show #[] ++ _ = _
  simp
theorem bytesS_app (xs ys : List Int) : bytesS (xs ++ ys) = bytesS xs ++ bytesS ys := by
  rw [bytesS_eq, bytesS_eq, bytesS_eq]
  apply ByteArray.ext
  rw [ByteArray.data_append]
  simp
theorem bytesS_size (xs : List Int) : (bytesS xs).size = xs.length := by rw [bytesS_eq]; show Array.size _ = _; simp
theorem bytesS_nil : bytesS [] = (⟨#[]⟩ : ByteArray) := by rw [bytesS_eq]; rfl
end Go.Pg


