/- Plain laws of the document's codec: what is read of any bytes. No statement of its own. -/
import Derived.Test.YtijpigojhildgaaCr
namespace Go.Proofs.Ytijpigojhildgaa.Pure
open Go.Vk Go.Am Go.Pg Go.Sort Go.Proofs Go.Proofs.Ytijpigojhildgaa.Y
set_option linter.unusedVariables false
set_option linter.unusedSimpArgs false
theorem bytesS_at (bs : List Int) (i : Nat) (h : i < bs.length) (h0 : 0 ≤ bs[i]) (h1 : bs[i] ≤ 255) : (((bytesS bs).get! i).toNat : Int) = bs[i] := by
  have e : (bytesS bs).get! i = UInt8.ofNat bs[i].toNat := by
    rw [bytesS_eq]
    show ((bs.map fun n => UInt8.ofNat n.toNat).toArray)[i]! = _
    rw [getElem!_pos _ _ (by simpa using h)]
    simp
  rw [e, UInt8.toNat_ofNat']
  omega
theorem cond5r (A B C D E : Bool) : (bif !A then (bif B then (bif !C then (bif D then (some E) else (some false)) else (some true)) else (bif D then (some E) else (some false))) else (some true)) = some (A || ((B && C) || (D && E))) := by
  cases A <;> cases B <;> cases C <;> cases D <;> cases E <;> rfl
theorem step_r (u y i : Nat) (x : Int) (hN : u + y * 2 ^ (7 * i) < 2 ^ 64) (hi : i ≤ 9) (h0 : 0 ≤ x) (hx : x % 128 = (y : Int)) :
    (IntKind.u64.wrap ((u : Int) + (IntKind.u64.wrap ((IntKind.u64.wrap (Int.tmod x 128)) * 2 ^ (min (IntKind.i64.wrap (7 * (i : Int))).toNat (IntKind.bits .u64)))))) = ((u + y * 2 ^ (7 * i) : Nat) : Int) := by
  have p64 : (2 : Nat) ^ 64 = 18446744073709551616 := by decide
  rw [Int.tmod_eq_emod_of_nonneg h0, hx]
  have e1 : IntKind.u64.wrap (y : Int) = (y : Int) := by rw [IntKind.wrap_u64]; omega
  have e2 : (IntKind.i64.wrap (7 * (i : Int))).toNat = 7 * i := by rw [wr _ (by omega) (by omega)]; omega
  have e3 : min (7 * i) (IntKind.bits .u64) = 7 * i := Nat.min_eq_left (by show 7 * i ≤ 64; omega)
  have e4 : (y : Int) * 2 ^ (7 * i) = ((y * 2 ^ (7 * i) : Nat) : Int) := by simp
  rw [e1, e2, e3, e4]
  rw [p64] at hN
  have e5 : IntKind.u64.wrap ((y * 2 ^ (7 * i) : Nat) : Int) = ((y * 2 ^ (7 * i) : Nat) : Int) := by rw [IntKind.wrap_u64]; omega
  rw [e5, IntKind.wrap_u64]
  omega
theorem rf_any : ∀ (rest pre : List Int) (u : Nat), pre.length ≤ 9 → (∀ x ∈ pre ++ rest, 0 ≤ x ∧ x ≤ 255) → u < 2 ^ (7 * pre.length) → (pre ++ rest).length ≤ 1099511627776 →
    loopO (purserref03_Reader_groups.l1 9) ((u : Int), (pre.length : Int), (bytesS (pre ++ rest), 0)) = some (match rdG pre.length u rest with
      | .inl er => (0, 0, (bytesS (pre ++ rest), er))
      | .inr p => ((p.1 : Int), (((pre ++ rest).length - p.2.length : Nat) : Int), (bytesS (pre ++ rest), 0)))
  | [], pre, u, hi, hb, hu, hl => by
    rw [loopO_eq]
    have c1 : decide ((pre.length : Int) ≥ ((bytesS (pre ++ [])).size : Int)) = true := decide_eq_true (by rw [bytesS_size]; simp)
    simp only [purserref03_Reader_groups.l1, c1, cond_true, Option.bind_some, rdG]
  | x :: l, pre, u, hi, hb, hu, hl => by
    obtain ⟨h0, h1⟩ := hb x (by simp)
    rw [loopO_eq]
    have hlen : (pre ++ x :: l).length = pre.length + l.length + 1 := by simp; omega
    have happ : pre ++ x :: l = (pre ++ [x]) ++ l := by simp
    have hpi : pre.length < (pre ++ x :: l).length := by omega
    have hxi : (pre ++ x :: l)[pre.length] = x := by simp
    have hget : ((((bytesS (pre ++ x :: l)).get! ((pre.length : Int)).toNat).toNat : Int)) = x := by
      rw [Int.toNat_natCast, bytesS_at _ _ hpi (by rw [hxi]; exact h0) (by rw [hxi]; exact h1), hxi]
    generalize hB : pre ++ x :: l = B at hl hlen happ hget hb ⊢
    have c1 : decide ((pre.length : Int) ≥ ((bytesS B).size : Int)) = false := decide_eq_false (by rw [bytesS_size]; omega)
    have c2 : decide ((pre.length : Int) < ((bytesS B).size : Int)) = true := decide_eq_true (by rw [bytesS_size]; omega)
    by_cases hbad : pre.length = 9 ∨ (x = 0 ∧ 0 < pre.length)
    · have hr : rdG pre.length u (x :: l) = .inl 2 := by unfold rdG; rw [if_pos hbad]
      have cb : (decide ((pre.length : Int) ≥ 9) || ((((pre.length : Int) == 9) && decide (x > 1)) || ((x == 0) && decide ((pre.length : Int) > 0)))) = true := by
        rcases hbad with h | ⟨h, k⟩
        · rw [h]; rfl
        · subst h
          have : decide ((pre.length : Int) > 0) = true := decide_eq_true (by omega)
          rw [this]; simp
      simp only [purserref03_Reader_groups.l1, c1, cond_false, nn, c2, Bool.and_self, cond_true, hget, cond5r, cb, Option.bind_some, hr]
    · have h9 : pre.length < 9 := by omega
      have cb : (decide ((pre.length : Int) ≥ 9) || ((((pre.length : Int) == 9) && decide (x > 1)) || ((x == 0) && decide ((pre.length : Int) > 0)))) = false := by
        have e0 : decide ((pre.length : Int) ≥ 9) = false := decide_eq_false (by omega)
        have e1 : ((pre.length : Int) == 9) = false := by simp; omega
        have e2 : ((x == 0) && decide ((pre.length : Int) > 0)) = false := by
          by_cases hx : x = 0
          · have : ¬ 0 < pre.length := fun h => hbad (.inr ⟨hx, h⟩)
            have : decide ((pre.length : Int) > 0) = false := decide_eq_false (by omega)
            rw [this, Bool.and_false]
          · simp [hx]
        rw [e0, e1, e2]; rfl
      have c6 : decide (0 ≤ IntKind.i64.wrap (7 * (pre.length : Int))) = true := by rw [wr _ (by omega) (by omega)]; exact decide_eq_true (by omega)
      have c7 : IntKind.i64.wrap ((pre.length : Int) + 1) = ((pre.length + 1 : Nat) : Int) := by rw [IntKind.wrap_i64]; omega
      have hy : x % 128 = ((x.toNat % 128 : Nat) : Int) := by omega
      have hp8 : 2 ^ (7 * (pre.length + 1)) = 2 ^ (7 * pre.length) * 128 := by rw [Nat.mul_succ, Nat.pow_add]
      have hnew : u + x.toNat % 128 * 2 ^ (7 * pre.length) < 2 ^ (7 * (pre.length + 1)) := by
        have hm : x.toNat % 128 * 2 ^ (7 * pre.length) ≤ 127 * 2 ^ (7 * pre.length) := Nat.mul_le_mul_right _ (by omega)
        rw [hp8]; omega
      have h64 : 2 ^ (7 * (pre.length + 1)) ≤ 2 ^ 63 := Nat.pow_le_pow_right (by omega) (by omega)
      have h6364 : (2 : Nat) ^ 63 < 2 ^ 64 := by decide
      have hs := step_r u (x.toNat % 128) pre.length x (by omega) (by omega) h0 hy
      simp only [purserref03_Reader_groups.l1, c1, cond_false, nn, c2, Bool.and_self, cond_true, hget, cond5r, cb, Option.bind_some, c6, hs, c7]
      by_cases hx : x < 128
      · have hr : rdG pre.length u (x :: l) = .inr (u + x.toNat * 2 ^ (7 * pre.length), l) := by unfold rdG; rw [if_neg hbad, if_pos hx]
        have hd : decide (x < 128) = true := decide_eq_true hx
        rw [hd, hr]
        simp only [cond_true, Option.bind_some]
        rw [show x.toNat % 128 = x.toNat by omega, show B.length - l.length = pre.length + 1 by omega]
      · have hr : rdG pre.length u (x :: l) = rdG (pre.length + 1) (u + (x.toNat % 128) * 2 ^ (7 * pre.length)) l := by rw [rdG, if_neg hbad, if_neg hx]
        have hd : decide (x < 128) = false := decide_eq_false hx
        rw [hd, hr]
        simp only [cond_false, Option.bind_some]
        have ih := rf_any l (pre ++ [x]) (u + (x.toNat % 128) * 2 ^ (7 * pre.length)) (by simp; omega) (by rw [← happ]; exact hb) (by simpa using hnew) (by rw [← happ]; exact hl)
        rw [← happ] at ih
        rw [show (pre ++ [x]).length = pre.length + 1 by simp] at ih
        exact ih
theorem bytesS_drop (a b : List Int) : (bytesS (a ++ b)).extract a.length (a.length + b.length) = bytesS b := by
  apply ByteArray.ext
  rw [ByteArray.data_extract, bytesS_eq, bytesS_eq]
  show Array.extract _ _ _ = _
  apply Array.ext'
  simp
  rw [List.take_of_length_le (by simp)]
/-- What the document's Uint makes of any bytes. -/
theorem ruint_any (bs : List Int) (most : Nat) (hb : ∀ x ∈ bs, 0 ≤ x ∧ x ≤ 255) (hl : bs.length ≤ 1099511627776) (hm : most < 2 ^ 63) :
    purserref03_Reader_Uint.f (bytesS bs, 0) (most : Int) = some ((bytesS (uintR most bs).1.1, (uintR most bs).1.2), (uintR most bs).2) := by
  have p63 : (2 : Nat) ^ 63 = 9223372036854775808 := by decide
  rw [p63] at hm
  have hL := rf_any bs [] 0 (by simp) (by simpa using hb) (by simp) (by simpa using hl)
  have hL : loopO (purserref03_Reader_groups.l1 9) (0, 0, (bytesS bs, 0)) = some (match rdG 0 0 bs with
      | .inl er => (0, 0, (bytesS bs, er))
      | .inr p => ((p.1 : Int), ((bs.length - p.2.length : Nat) : Int), (bytesS bs, 0))) := hL
  unfold purserref03_Reader_Uint.f
  rw [show (((bytesS bs, (0 : Int)) : ByteArray × Int).2 != 0) = false from rfl, cond_false]
  unfold purserref03_Reader_groups.f
  simp only
  rw [hL, Option.bind_some]
  unfold uintR
  cases hr : rdG 0 0 bs with
  | inl er =>
    rcases rdG_err hr with rfl | rfl <;> rfl
  | inr p =>
    obtain ⟨v, r⟩ := p
    obtain ⟨m, e1, e2, _, e4⟩ := rdG_gr bs 0 0 v r (by omega) hb hr
    have hv : v = m := by simpa using e2
    subst hv
    have h9 : (128 : Nat) ^ (9 - 0) = 9223372036854775808 := by decide
    rw [h9] at e4
    simp only [Option.bind_some]
    have hneg : decide ((most : Int) < 0) = false := decide_eq_false (by omega)
    have hw : IntKind.u64.wrap (most : Int) = (most : Int) := by rw [IntKind.wrap_u64]; omega
    have hvw : IntKind.i64.wrap (v : Int) = (v : Int) := wr _ (by omega) (by omega)
    rw [show (((0 : Int)) != 0) = false from rfl, cond_false, hneg, hw]
    simp only [Bool.not_false, cond_true, Option.bind_some]
    by_cases hc : v ≤ most
    · have hd : decide ((v : Int) > (most : Int)) = false := decide_eq_false (by omega)
      rw [hd, cond_false, if_pos hc]
      have hlen : bs.length = (gr v).length + r.length := by rw [e1, List.length_append]
      have g1 : decide ((0 : Int) ≤ ((bs.length - r.length : Nat) : Int)) = true := decide_eq_true (by omega)
      have g2 : decide (((bs.length - r.length : Nat) : Int) ≤ ((bytesS bs).size : Int)) = true := decide_eq_true (by rw [bytesS_size]; omega)
      have g3 : decide (((bytesS bs).size : Int) ≤ ((bytesS bs).size : Int)) = true := decide_eq_true (by omega)
      rw [g1, g2, g3]
      simp only [Bool.and_self, cond_true, Int.toNat_natCast, hvw]
      rw [bytesS_size, hlen, show (gr v).length + r.length - r.length = (gr v).length by omega, e1, bytesS_drop]
    · have hd : decide ((v : Int) > (most : Int)) = true := decide_eq_true (by omega)
      rw [hd, cond_true, if_neg hc]
end Go.Proofs.Ytijpigojhildgaa.Pure
