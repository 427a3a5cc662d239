/- Plain laws of the codec: numbers are written and read. No statement of its own. -/
import Derived.Test.YtijpigojhildgaaUc
import Derived.Test.YtijpigojhildgaaPg
import Derived.Test.YtijpigojhildgaaPk
namespace Go.Proofs.Ytijpigojhildgaa.Pure
open Go.Vk Go.Am Go.Pg Go.Sort Go.Proofs.Ytijpigojhildgaa.Y
set_option linter.unusedVariables false
set_option linter.unusedSimpArgs false

/-! ### writers -/
theorem put_loop : ∀ (n u : Nat) (b : List Int) (bad : Bool), u < 128 ^ (n + 1) → b.length + n + 1 ≤ 1099511627776 →
    ∃ (v : Nat) (b' : List Int), loopO codec_Writer_put.l1 ((u : Int), (), b, bad) = some ((v : Int), (), b', bad) ∧ v < 128 ∧ b' ++ [(v : Int)] = b ++ gr u ∧ b'.length + 1 ≤ 1099511627776 := by
  intro n
  induction n with
  | zero =>
    intro u b bad hu hb
    have hu : u < 128 := by simpa using hu
    refine ⟨u, b, ?_, hu, by rw [gr_lo hu], by omega⟩
    rw [loopO_eq]
    have h1 : decide ((u : Int) ≥ 128) = false := by simp; omega
    simp only [codec_Writer_put.l1, h1, cond_false, Option.bind_some]
  | succ n ih =>
    intro u b bad hu hb
    by_cases h : u < 128
    · refine ⟨u, b, ?_, h, by rw [gr_lo h], by omega⟩
      rw [loopO_eq]
      have h1 : decide ((u : Int) ≥ 128) = false := by simp; omega
      simp only [codec_Writer_put.l1, h1, cond_false, Option.bind_some]
    · have h1 : decide ((u : Int) ≥ 128) = true := by simp; omega
      obtain ⟨v, b', e1, e2, e3, e4⟩ := ih (u / 128) (b ++ [((u % 128 + 128 : Nat) : Int)]) bad (by rw [Nat.div_lt_iff_lt_mul (by decide)]; rw [Nat.pow_succ] at hu; exact hu) (by simp; omega)
      refine ⟨v, b', ?_, e2, by rw [e3, gr_hi h]; simp, e4⟩
      rw [loopO_eq]
      have h2 : decide (b.length + ([((u % 128 + 128 : Nat) : Int)] : List Int).length ≤ 1099511627776) = true := by simp; omega
      have h3 : Int.fdiv (u : Int) (2 ^ 7) = ((u / 128 : Nat) : Int) := by rw [Int.fdiv_eq_ediv_of_nonneg _ (by decide)]; rfl
      have h4 := b_more (u : Int) (by omega)
      have h5 : (u : Int) % 128 + 128 = ((u % 128 + 128 : Nat) : Int) := by omega
      rw [h5] at h4
      simp only [codec_Writer_put.l1, h1, cond_true, h4, h2, h3, Option.bind_some, e1]
theorem p64 : (2 : Nat) ^ 64 < 128 ^ 10 := by decide
theorem put_eq (u : Nat) (b : List Int) (bad : Bool) (hu : u < 2 ^ 64) (hb : b.length + 10 ≤ 1099511627776) : codec_Writer_put.f (b, bad) (u : Int) = some ((b ++ gr u, bad), ()) := by
  obtain ⟨v, b', e1, e2, e3, e4⟩ := put_loop 9 u b bad (Nat.lt_trans hu p64) (by omega)
  unfold codec_Writer_put.f
  rw [e1]
  have h1 : IntKind.u8.wrap (v : Int) = (v : Int) := by rw [IntKind.wrap_u8]; omega
  have h2 : decide (b'.length + ([(v : Int)] : List Int).length ≤ 1099511627776) = true := by simp; omega
  simp only [Option.bind_some, h1, h2, cond_true, e3]
theorem wuint_eq (n : Nat) (b : List Int) (bad : Bool) (hn : n < 2 ^ 63) (hb : b.length + 10 ≤ 1099511627776) : codec_Writer_Uint.f (b, bad) (n : Int) = some ((b ++ gr n, bad), ()) := by
  have p63 : (2 : Nat) ^ 63 = 9223372036854775808 := by decide
  rw [p63] at hn
  unfold codec_Writer_Uint.f
  have h1 : decide ((n : Int) < 0) = false := by simp
  have h2 : IntKind.u64.wrap (n : Int) = (n : Int) := by rw [IntKind.wrap_u64]; omega
  simp only [h1, cond_false, h2, put_eq n b bad (by have : (2 : Nat) ^ 64 = 18446744073709551616 := by decide
                                                    omega) hb, Option.bind_some]
theorem szOk (a b : List Int) (h : a.length + b.length ≤ 1099511627776) : decide ((((bytesS a).size + (bytesS b).size : Nat) : Int) ≤ 9223372036854775807) = true := by
  have e : (bytesS a).size + (bytesS b).size = a.length + b.length := by rw [bytesS_size, bytesS_size]
  rw [e]
  exact decide_eq_true (by omega)
noncomputable def tk (most : Int) (s1 : Int × Int × (List Int × Int)) : Option ((Int × Int × (List Int × Int)) ⊕ ((Int × Int × (List Int × Int)))) := bif (s1.2.1 == (s1.2.2.1.length : Int)) then (some (.inr (0, 0, (s1.2.2.1, 3)))) else (bif (decide (0 ≤ s1.2.1) && decide (s1.2.1 < (s1.2.2.1.length : Int))) then (((bif !(s1.2.1 == most) then (bif ((s1.2.2.1.getD s1.2.1.toNat 0) == 0) then (bif !(decide (s1.2.1 > 0)) then (bif (s1.2.1 == 9) then (some (decide ((s1.2.2.1.getD s1.2.1.toNat 0) > 1))) else (some false)) else (some true)) else (bif (s1.2.1 == 9) then (some (decide ((s1.2.2.1.getD s1.2.1.toNat 0) > 1))) else (some false))) else (some true)) : Option (Bool)).bind fun e2 => bif e2 then (some (.inr (0, 0, (s1.2.2.1, 2)))) else (bif decide (0 ≤ (IntKind.i64.wrap (7 * s1.2.1))) then (bif decide ((s1.2.2.1.getD s1.2.1.toNat 0) ≥ 128) then (some (.inl ((IntKind.u64.wrap (((BitVec.ofInt (IntKind.bits .u64) s1.1 ||| BitVec.ofInt (IntKind.bits .u64) (IntKind.u64.wrap ((IntKind.u64.wrap (IntKind.u8.wrap (((BitVec.ofInt (IntKind.bits .u8) (s1.2.2.1.getD s1.2.1.toNat 0) &&& ~~~(BitVec.ofInt (IntKind.bits .u8) 128)) : BitVec (IntKind.bits .u8)).toNat : Int))) * 2 ^ (min (IntKind.i64.wrap (7 * s1.2.1)).toNat (IntKind.bits .u64))))) : BitVec (IntKind.bits .u64)).toNat : Int)), (IntKind.i64.wrap (s1.2.1 + 1)), (s1.2.2.1, s1.2.2.2)))) else (some (.inr ((IntKind.u64.wrap (((BitVec.ofInt (IntKind.bits .u64) s1.1 ||| BitVec.ofInt (IntKind.bits .u64) (IntKind.u64.wrap ((IntKind.u64.wrap (IntKind.u8.wrap (((BitVec.ofInt (IntKind.bits .u8) (s1.2.2.1.getD s1.2.1.toNat 0) &&& ~~~(BitVec.ofInt (IntKind.bits .u8) 128)) : BitVec (IntKind.bits .u8)).toNat : Int))) * 2 ^ (min (IntKind.i64.wrap (7 * s1.2.1)).toNat (IntKind.bits .u64))))) : BitVec (IntKind.bits .u64)).toNat : Int)), (IntKind.i64.wrap (s1.2.1 + 1)), (s1.2.2.1, s1.2.2.2))))) else none)) else none)
theorem uint_tk : codec_Reader_Uint.l1 = tk 9 := rfl
theorem cond5 (c1 c2 c3 c4 c5 : Bool) : (bif !c1 then (bif c2 then (bif !c3 then (bif c4 then some c5 else some false) else some true) else (bif c4 then some c5 else some false)) else some true) = some (c1 || ((c2 && c3) || (c4 && c5))) := by
  cases c1 <;> cases c2 <;> cases c3 <;> cases c4 <;> cases c5 <;> rfl
theorem step_u (u y i : Nat) (x : Int) (hu : u < 2 ^ (7 * i)) (hN : u + y * 2 ^ (7 * i) < 2 ^ 64) (hi : i ≤ 9) (h0 : 0 ≤ x) (h1 : x ≤ 255) (hx : x % 128 = (y : Int)) :
    (IntKind.u64.wrap (((BitVec.ofInt (IntKind.bits .u64) (u : Int) ||| BitVec.ofInt (IntKind.bits .u64) (IntKind.u64.wrap ((IntKind.u64.wrap (IntKind.u8.wrap (((BitVec.ofInt (IntKind.bits .u8) x &&& ~~~(BitVec.ofInt (IntKind.bits .u8) 128)) : BitVec (IntKind.bits .u8)).toNat : Int))) * 2 ^ (min (IntKind.i64.wrap (7 * (i : Int))).toNat (IntKind.bits .u64))))) : BitVec (IntKind.bits .u64)).toNat : Int)) = ((u + y * 2 ^ (7 * i) : Nat) : Int) := by
  have p64 : (2 : Nat) ^ 64 = 18446744073709551616 := by decide
  rw [b_less x h0 h1, hx]
  have e1 : IntKind.u64.wrap (y : Int) = (y : Int) := by rw [IntKind.wrap_u64]; omega
  have e2 : (IntKind.i64.wrap (7 * (i : Int))).toNat = 7 * i := by rw [wr _ (by omega) (by omega)]; omega
  have e3 : min (7 * i) (IntKind.bits .u64) = 7 * i := Nat.min_eq_left (by show 7 * i ≤ 64; omega)
  have e4 : (y : Int) * 2 ^ (7 * i) = ((y * 2 ^ (7 * i) : Nat) : Int) := by simp
  rw [e1, e2, e3, e4]
  rw [p64] at hN
  have e5 : IntKind.u64.wrap ((y * 2 ^ (7 * i) : Nat) : Int) = ((y * 2 ^ (7 * i) : Nat) : Int) := by rw [IntKind.wrap_u64]; omega
  rw [e5, b_or u y (7 * i) hu (by rw [p64]; exact hN), IntKind.wrap_u64]
  omega
theorem tk_loop (most : Nat) (hm : most ≤ 10) : ∀ (n m u : Nat) (pre rest : List Int), m < 128 ^ (n + 1) → u < 2 ^ (7 * pre.length) → u + m * 2 ^ (7 * pre.length) < 2 ^ 64 → (pre.length = 0 ∨ 0 < m) → pre.length + (gr m).length ≤ most → (pre ++ gr m ++ rest).length ≤ 1099511627776 →
    loopO (tk (most : Int)) ((u : Int), (pre.length : Int), (pre ++ gr m ++ rest, 0)) = some (((u + m * 2 ^ (7 * pre.length) : Nat) : Int), ((pre.length + (gr m).length : Nat) : Int), (pre ++ gr m ++ rest, 0)) := by
  intro n
  have q64 : (2 : Nat) ^ 64 = 18446744073709551616 := by decide
  have common : ∀ (m u : Nat) (pre rest : List Int) (x : Int) (l : List Int), gr m = x :: l → 0 ≤ x → x ≤ 255 → (x = 0 → pre.length = 0) → (pre.length = 9 → x ≤ 1) → pre.length < most → (pre ++ gr m ++ rest).length ≤ 1099511627776 → ∀ (y : Nat), x % 128 = (y : Int) → u < 2 ^ (7 * pre.length) → u + y * 2 ^ (7 * pre.length) < 2 ^ 64 →
      tk (most : Int) ((u : Int), (pre.length : Int), (pre ++ gr m ++ rest, 0)) = some (if 128 ≤ x then .inl (((u + y * 2 ^ (7 * pre.length) : Nat) : Int), ((pre.length + 1 : Nat) : Int), (pre ++ gr m ++ rest, 0)) else .inr (((u + y * 2 ^ (7 * pre.length) : Nat) : Int), ((pre.length + 1 : Nat) : Int), (pre ++ gr m ++ rest, 0))) := by
    intro m u pre rest x l hg h0 h1 hz h9 hlt hl y hy hu hN
    have hg' : pre ++ gr m ++ rest = pre ++ x :: (l ++ rest) := by rw [hg]; simp
    rw [hg'] at hl ⊢
    have hlen : (pre ++ x :: (l ++ rest)).length = pre.length + (l.length + rest.length) + 1 := by simp; omega
    generalize hB : pre ++ x :: (l ++ rest) = B at hl hlen ⊢
    have hget : B.getD ((pre.length : Int)).toNat 0 = x := by rw [← hB]; exact getD_pre _ _ _ _
    have c1 : ((pre.length : Int) == (B.length : Int)) = false := by simp; omega
    have c2 : decide ((pre.length : Int) < (B.length : Int)) = true := by simp; omega
    have c3 : ((pre.length : Int) == (most : Int)) = false := by simp; omega
    have c4 : ((x == 0) && decide ((pre.length : Int) > 0)) = false := by
      by_cases hx : x = 0
      · have := hz hx; simp [this]
      · simp [hx]
    have c5 : (((pre.length : Int) == 9) && decide (x > 1)) = false := by
      by_cases hp : pre.length = 9
      · have := h9 hp; simp; intro _; omega
      · have : ((pre.length : Int) == 9) = false := by simp; omega
        rw [this]; rfl
    have c6 : decide (0 ≤ IntKind.i64.wrap (7 * (pre.length : Int))) = true := by rw [wr _ (by omega) (by omega)]; simp; omega
    have c7 : IntKind.i64.wrap ((pre.length : Int) + 1) = ((pre.length + 1 : Nat) : Int) := by rw [IntKind.wrap_i64]; omega
    have hs := step_u u y pre.length x hu hN (by omega) h0 h1 hy
    simp only [tk, c1, cond_false, nn, c2, Bool.and_self, cond_true, hget, cond5, c3, c4, c5, Bool.or_self, Option.bind_some, c6, hs, c7]
    by_cases hx : 128 ≤ x
    · have : decide (x ≥ 128) = true := by simpa using hx
      rw [this, if_pos hx]; rfl
    · have : decide (x ≥ 128) = false := by simp; omega
      rw [this, if_neg hx]; rfl
  have two7 : ∀ k : Nat, 2 ^ (7 * (k + 1)) = 128 * 2 ^ (7 * k) := fun k => by rw [Nat.mul_succ, Nat.pow_add]; omega
  have low : ∀ (m u : Nat) (pre rest : List Int), m < 128 → u < 2 ^ (7 * pre.length) → u + m * 2 ^ (7 * pre.length) < 2 ^ 64 → (pre.length = 0 ∨ 0 < m) → pre.length + (gr m).length ≤ most → (pre ++ gr m ++ rest).length ≤ 1099511627776 →
      loopO (tk (most : Int)) ((u : Int), (pre.length : Int), (pre ++ gr m ++ rest, 0)) = some (((u + m * 2 ^ (7 * pre.length) : Nat) : Int), ((pre.length + (gr m).length : Nat) : Int), (pre ++ gr m ++ rest, 0)) := by
    intro m u pre rest hm1 hu hN hz hl hb
    rw [loopO_eq, common m u pre rest (m : Int) [] (gr_lo hm1) (by omega) (by omega) (fun h => by omega) (fun h => by
      rw [h] at hN
      have : (2 : Nat) ^ (7 * 9) = 9223372036854775808 := by decide
      rw [this, q64] at hN
      omega) (by rw [gr_lo hm1] at hl; simp at hl; omega) hb m (by omega) hu hN]
    rw [if_neg (by omega)]
    simp only [Option.bind_some]
    rw [gr_lo hm1]
    rfl
  induction n with
  | zero =>
    intro m u pre rest hm1 hu hN hz hl hb
    exact low m u pre rest (by simpa using hm1) hu hN hz hl hb
  | succ n ih =>
    intro m u pre rest hm1 hu hN hz hl hb
    by_cases h : m < 128
    · exact low m u pre rest h hu hN hz hl hb
    · have hg := gr_hi h
      have hmm : m % 128 * 2 ^ (7 * pre.length) + (m / 128) * (128 * 2 ^ (7 * pre.length)) = m * 2 ^ (7 * pre.length) := by
        rw [← Nat.mul_assoc, ← Nat.add_mul]
        congr 1
        omega
      have hlt : pre.length < most := by rw [hg] at hl; simp at hl; omega
      have hbig : u + m % 128 * 2 ^ (7 * pre.length) < 128 * 2 ^ (7 * pre.length) := by
        have : m % 128 * 2 ^ (7 * pre.length) ≤ 127 * 2 ^ (7 * pre.length) := Nat.mul_le_mul_right _ (by omega)
        omega
      rw [loopO_eq, common m u pre rest _ _ hg (by omega) (by omega) (fun h => by omega) (fun h9 => by
        rw [hg] at hl
        have := gr_pos (m / 128)
        simp at hl
        omega) hlt hb (m % 128) (by omega) hu (by omega)]
      rw [if_pos (by omega)]
      simp only [Option.bind_some]
      have hpre : pre ++ gr m ++ rest = (pre ++ [((m % 128 + 128 : Nat) : Int)]) ++ gr (m / 128) ++ rest := by rw [hg]; simp
      have hplen : pre.length + 1 = (pre ++ [((m % 128 + 128 : Nat) : Int)]).length := by simp
      have hgl : (gr m).length = (gr (m / 128)).length + 1 := by rw [hg]; simp
      have := ih (m / 128) (u + m % 128 * 2 ^ (7 * pre.length)) (pre ++ [((m % 128 + 128 : Nat) : Int)]) rest (by rw [Nat.div_lt_iff_lt_mul (by decide)]; rw [Nat.pow_succ] at hm1; exact hm1)
        (by rw [← hplen, two7]; exact hbig) (by rw [← hplen, two7, Nat.add_assoc, hmm]; exact hN) (.inr (by omega)) (by rw [← hplen]; omega) (by rw [← hpre]; exact hb)
      rw [← hplen, two7, Nat.add_assoc, hmm, ← hpre] at this
      rw [this, hgl]
      congr 2
      congr 1
      omega
theorem rduint_eq (n : Nat) (most : Nat) (rest : List Int) (hn : n < 2 ^ 63) (hm : n ≤ most) (hmb : most < 2 ^ 63) (hb : (gr n ++ rest).length ≤ 1099511627776) : codec_Reader_Uint.f (gr n ++ rest, 0) (most : Int) = some ((rest, 0), (n : Int)) := by
  have p63 : (2 : Nat) ^ 63 = 9223372036854775808 := by decide
  have q64 : (2 : Nat) ^ 64 = 18446744073709551616 := by decide
  have hg := gr_len 8 n (Nat.lt_of_lt_of_le hn (by decide))
  have h := tk_loop 9 (by omega) 8 n 0 [] rest (Nat.lt_of_lt_of_le hn (by decide)) (by simp) (by simp; omega) (.inl rfl) (by simpa using hg) (by simpa using hb)
  simp only [List.nil_append, List.length_nil, Nat.mul_zero, Nat.pow_zero, Nat.mul_one, Nat.zero_add] at h
  unfold codec_Reader_Uint.f
  rw [uint_tk]
  rw [show ((0 : Int) != 0) = false from rfl, cond_false]
  rw [show loopO (tk 9) (0, 0, (gr n ++ rest, 0)) = some ((n : Int), ((gr n).length : Int), (gr n ++ rest, 0)) from h]
  have c1 : decide ((most : Int) < 0) = false := by simp
  have c2 : IntKind.u64.wrap (most : Int) = (most : Int) := by rw [IntKind.wrap_u64]; omega
  have c3 : decide ((n : Int) > (most : Int)) = false := by simp; omega
  have c4 : (decide ((0 : Int) ≤ ((gr n).length : Int)) && (decide (((gr n).length : Int) ≤ ((gr n ++ rest).length : Int)) && decide (((gr n ++ rest).length : Int) ≤ ((gr n ++ rest).length : Int)))) = true := by simp; omega
  have c5 : ((gr n ++ rest).take ((gr n ++ rest).length : Int).toNat).drop ((gr n).length : Int).toNat = rest := by
    rw [Int.toNat_natCast, Int.toNat_natCast, List.take_length]; simp
  have c6 : IntKind.i64.wrap (n : Int) = (n : Int) := by rw [IntKind.wrap_i64]; omega
  simp only [Option.bind_some, bne_self_eq_false, cond_false, c1, Bool.not_false, cond_true, c2, c3, c4, c5, c6]
end Go.Proofs.Ytijpigojhildgaa.Pure
