/- Plain laws of the codec: what is read of any bytes. No statement of its own. -/
import Derived.Test.YtijpigojhildgaaCw
namespace Go.Proofs.Ytijpigojhildgaa.Pure
open Go.Vk Go.Am Go.Pg Go.Sort Go.Proofs Go.Proofs.Ytijpigojhildgaa.Y
set_option linter.unusedVariables false
set_option linter.unusedSimpArgs false
/-- What a reader finds: an error, or a number and what is left. -/
def rdG : Nat → Nat → List Int → Sum Int (Nat × List Int)
  | _, _, [] => .inl 3
  | i, u, x :: r => if i = 9 ∨ (x = 0 ∧ 0 < i) then .inl 2 else if x < 128 then .inr (u + x.toNat * 2 ^ (7 * i), r) else rdG (i + 1) (u + (x.toNat % 128) * 2 ^ (7 * i)) r
theorem rdG_gr : ∀ (l : List Int) (i u v : Nat) (r : List Int), i ≤ 9 → (∀ x ∈ l, 0 ≤ x ∧ x ≤ 255) → rdG i u l = .inr (v, r) → ∃ m, l = gr m ++ r ∧ v = u + m * 2 ^ (7 * i) ∧ (0 < i → 0 < m) ∧ m < 128 ^ (9 - i)
  | [], i, u, v, r, _, _, h => by simp [rdG] at h
  | x :: l, i, u, v, r, hi, hb, h => by
    have hx := hb x (by simp)
    unfold rdG at h
    split at h
    · cases h
    rename_i hbad
    split at h
    · rename_i hlt
      simp only [Sum.inr.injEq, Prod.mk.injEq] at h
      obtain ⟨rfl, rfl⟩ := h
      refine ⟨x.toNat, ?_, rfl, fun h0 => by omega, ?_⟩
      · rw [gr_lo (by omega), Int.toNat_of_nonneg hx.1]
        rfl
      · have h1 : 128 ^ 1 ≤ 128 ^ (9 - i) := Nat.pow_le_pow_right (by omega) (by omega)
        omega
    · rename_i hge
      obtain ⟨m, e1, e2, e3, e4⟩ := rdG_gr l (i + 1) _ v r (by omega) (fun y hy => hb y (by simp [hy])) h
      have hm : 0 < m := e3 (by omega)
      refine ⟨x.toNat % 128 + 128 * m, ?_, ?_, fun _ => by omega, ?_⟩
      · rw [gr_hi (by omega), show (x.toNat % 128 + 128 * m) / 128 = m by omega, show (x.toNat % 128 + 128 * m) % 128 = x.toNat % 128 by omega, e1]
        have : ((x.toNat % 128 + 128 : Nat) : Int) = x := by omega
        rw [this]
        rfl
      · rw [e2, show 7 * (i + 1) = 7 * i + 7 by omega, Nat.pow_add, Nat.add_mul, Nat.mul_comm 128 m, Nat.mul_assoc m 128, Nat.mul_comm 128 (2 ^ (7 * i)), show (2 : Nat) ^ 7 = 128 from rfl, Nat.add_assoc]
      · rw [show 9 - i = (9 - (i + 1)) + 1 by omega, Nat.pow_succ]
        omega
theorem tk_any : ∀ (rest pre : List Int) (u : Nat), pre.length ≤ 9 → (∀ x ∈ rest, 0 ≤ x ∧ x ≤ 255) → u < 2 ^ (7 * pre.length) → (pre ++ rest).length ≤ 1099511627776 →
    loopO (tk 9) ((u : Int), (pre.length : Int), (pre ++ rest, 0)) = some (match rdG pre.length u rest with
      | .inl er => (0, 0, (pre ++ rest, er))
      | .inr p => ((p.1 : Int), (((pre ++ rest).length - p.2.length : Nat) : Int), (pre ++ rest, 0)))
  | [], pre, u, hi, hb, hu, hl => by
    rw [loopO_eq]
    have c1 : ((pre.length : Int) == ((pre ++ []).length : Int)) = true := by simp
    simp only [tk, c1, cond_true, Option.bind_some, rdG]
  | x :: l, pre, u, hi, hb, hu, hl => by
    obtain ⟨h0, h1⟩ := hb x (by simp)
    rw [loopO_eq]
    have hlen : (pre ++ x :: l).length = pre.length + l.length + 1 := by simp; omega
    have happ : pre ++ x :: l = (pre ++ [x]) ++ l := by simp
    have hget : (pre ++ x :: l).getD ((pre.length : Int)).toNat 0 = x := getD_pre _ _ _ _
    generalize hB : pre ++ x :: l = B at hl hlen happ hget ⊢
    have c1 : ((pre.length : Int) == (B.length : Int)) = false := by simp; omega
    have c2 : decide ((pre.length : Int) < (B.length : Int)) = true := by simp; omega
    by_cases hbad : pre.length = 9 ∨ (x = 0 ∧ 0 < pre.length)
    · have hr : rdG pre.length u (x :: l) = .inl 2 := by unfold rdG; rw [if_pos hbad]
      have cb : (((pre.length : Int) == 9) || (((x == 0) && decide ((pre.length : Int) > 0)) || (((pre.length : Int) == 9) && decide (x > 1)))) = true := by
        rcases hbad with h | ⟨h, k⟩
        · rw [h]; rfl
        · subst h
          have : decide ((pre.length : Int) > 0) = true := decide_eq_true (by omega)
          rw [this]; simp
      simp only [tk, c1, cond_false, nn, c2, Bool.and_self, cond_true, hget, cond5, cb, Option.bind_some, hr]
    · have h9 : pre.length < 9 := by omega
      have cb : (((pre.length : Int) == 9) || (((x == 0) && decide ((pre.length : Int) > 0)) || (((pre.length : Int) == 9) && decide (x > 1)))) = false := by
        have e1 : ((pre.length : Int) == 9) = false := by simp; omega
        have e2 : ((x == 0) && decide ((pre.length : Int) > 0)) = false := by
          by_cases hx : x = 0
          · have : ¬ 0 < pre.length := fun h => hbad (.inr ⟨hx, h⟩)
            have : decide ((pre.length : Int) > 0) = false := decide_eq_false (by omega)
            rw [this, Bool.and_false]
          · simp [hx]
        rw [e1, e2]; rfl
      have c6 : decide (0 ≤ IntKind.i64.wrap (7 * (pre.length : Int))) = true := by rw [wr _ (by omega) (by omega)]; simp; omega
      have c7 : IntKind.i64.wrap ((pre.length : Int) + 1) = ((pre.length + 1 : Nat) : Int) := by rw [IntKind.wrap_i64]; omega
      have hy : x % 128 = ((x.toNat % 128 : Nat) : Int) := by omega
      have hp8 : 2 ^ (7 * (pre.length + 1)) = 2 ^ (7 * pre.length) * 128 := by rw [Nat.mul_succ, Nat.pow_add]
      have hnew : u + x.toNat % 128 * 2 ^ (7 * pre.length) < 2 ^ (7 * (pre.length + 1)) := by
        have hm : x.toNat % 128 * 2 ^ (7 * pre.length) ≤ 127 * 2 ^ (7 * pre.length) := Nat.mul_le_mul_right _ (by omega)
        rw [hp8]; omega
      have h64 : 2 ^ (7 * (pre.length + 1)) ≤ 2 ^ 63 := Nat.pow_le_pow_right (by omega) (by omega)
      have h6364 : (2 : Nat) ^ 63 < 2 ^ 64 := by decide
      have hs := step_u u (x.toNat % 128) pre.length x hu (by omega) (by omega) h0 h1 hy
      simp only [tk, c1, cond_false, nn, c2, Bool.and_self, cond_true, hget, cond5, cb, Option.bind_some, c6, hs, c7]
      by_cases hx : x < 128
      · have hr : rdG pre.length u (x :: l) = .inr (u + x.toNat * 2 ^ (7 * pre.length), l) := by unfold rdG; rw [if_neg hbad, if_pos hx]
        have hd : decide (x ≥ 128) = false := by simp; omega
        rw [hd, hr]
        simp only [cond_false, Option.bind_some]
        rw [show x.toNat % 128 = x.toNat by omega, show B.length - l.length = pre.length + 1 by omega]
      · have hr : rdG pre.length u (x :: l) = rdG (pre.length + 1) (u + (x.toNat % 128) * 2 ^ (7 * pre.length)) l := by rw [rdG, if_neg hbad, if_neg hx]
        have hd : decide (x ≥ 128) = true := by simp; omega
        rw [hd, hr]
        simp only [cond_true, Option.bind_some]
        have ih := tk_any l (pre ++ [x]) (u + (x.toNat % 128) * 2 ^ (7 * pre.length)) (by simp; omega) (fun y hy => hb y (by simp [hy])) (by simpa using hnew) (by rw [← happ]; exact hl)
        rw [← happ] at ih
        rw [show (pre ++ [x]).length = pre.length + 1 by simp] at ih
        exact ih
theorem rdG_err : ∀ {l : List Int} {i u : Nat} {er : Int}, rdG i u l = .inl er → er = 2 ∨ er = 3
  | [], i, u, er, h => by simp [rdG] at h; exact .inr h.symm
  | x :: l, i, u, er, h => by
    unfold rdG at h
    split at h
    · simp only [Sum.inl.injEq] at h; exact .inl h.symm
    · split at h
      · cases h
      · exact rdG_err h
/-- What Uint makes of any bytes. -/
def uintR (most : Nat) (bs : List Int) : (List Int × Int) × Int :=
  match rdG 0 0 bs with
  | .inl er => ((bs, er), 0)
  | .inr p => if p.1 ≤ most then ((p.2, 0), (p.1 : Int)) else ((bs, 5), 0)
theorem uint_any (bs : List Int) (most : Nat) (hb : ∀ x ∈ bs, 0 ≤ x ∧ x ≤ 255) (hl : bs.length ≤ 1099511627776) (hm : most < 2 ^ 63) : codec_Reader_Uint.f (bs, 0) (most : Int) = some (uintR most bs) := by
  have p63 : (2 : Nat) ^ 63 = 9223372036854775808 := by decide
  rw [p63] at hm
  have hL := tk_any bs [] 0 (by simp) hb (by simp) (by simpa using hl)
  have hL : loopO codec_Reader_Uint.l1 (0, 0, (bs, 0)) = some (match rdG 0 0 bs with
      | .inl er => (0, 0, (bs, er))
      | .inr p => ((p.1 : Int), ((bs.length - p.2.length : Nat) : Int), (bs, 0))) := hL
  unfold codec_Reader_Uint.f
  rw [show (((bs, (0 : Int)) : List Int × Int).2 != 0) = false from rfl, cond_false, hL, Option.bind_some]
  unfold uintR
  cases hr : rdG 0 0 bs with
  | inl er =>
    rcases rdG_err hr with rfl | rfl <;> rfl
  | inr p =>
    obtain ⟨v, r⟩ := p
    obtain ⟨m, e1, e2, _, e4⟩ := rdG_gr bs 0 0 v r (by omega) hb hr
    have hv : v = m := by simpa using e2
    subst hv
    have h9 : (128 : Nat) ^ (9 - 0) = 9223372036854775808 := by decide
    rw [h9] at e4
    simp only
    have hneg : decide ((most : Int) < 0) = false := decide_eq_false (by omega)
    have hw : IntKind.u64.wrap (most : Int) = (most : Int) := by rw [IntKind.wrap_u64]; omega
    have hvw : IntKind.i64.wrap (v : Int) = (v : Int) := wr _ (by omega) (by omega)
    rw [show (((0 : Int)) != 0) = false from rfl, cond_false, hneg, hw]
    simp only [Bool.not_false, cond_true, Option.bind_some]
    by_cases hc : v ≤ most
    · have hd : decide ((v : Int) > (most : Int)) = false := decide_eq_false (by omega)
      rw [hd, cond_false, if_pos hc]
      have hlen : bs.length = (gr v).length + r.length := by rw [e1, List.length_append]
      have g1 : decide ((0 : Int) ≤ ((bs.length - r.length : Nat) : Int)) = true := decide_eq_true (by omega)
      have g2 : decide (((bs.length - r.length : Nat) : Int) ≤ (bs.length : Int)) = true := decide_eq_true (by omega)
      have g3 : decide ((bs.length : Int) ≤ (bs.length : Int)) = true := decide_eq_true (by omega)
      rw [g1, g2, g3]
      simp only [Bool.and_self, cond_true, Int.toNat_natCast, List.take_length, hvw]
      rw [show bs.length - r.length = (gr v).length by omega, e1, List.drop_left]
    · have hd : decide ((v : Int) > (most : Int)) = true := decide_eq_true (by omega)
      rw [hd, cond_true, if_neg hc]
end Go.Proofs.Ytijpigojhildgaa.Pure
