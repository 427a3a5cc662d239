/- The law PeriodParts, in plain Lean. No statement of its own. -/
import Derived.Test.YtniohchnpfpffaaRc
namespace Go.Proofs.Ytniohchnpfpffaa.Pure
open Go.Vk Go.Am Go.Pg Go.Sort Go.Proofs.Ytniohchnpfpffaa.Y
set_option linter.unusedVariables false
set_option linter.unusedSimpArgs false

theorem modN (a : Int) (k : Nat) (hk : 0 < k) (hk2 : k ≤ 1000) : ∃ n : Nat, n < k ∧ IntKind.i64.wrap (Int.tmod (IntKind.u64.wrap a) (k : Int)) = (n : Int) := by
  have h0 : 0 ≤ IntKind.u64.wrap a ∧ IntKind.u64.wrap a < 18446744073709551616 := by
    rw [IntKind.wrap_u64]; omega
  rw [Int.tmod_eq_emod_of_nonneg h0.1]
  have h1 := Int.emod_nonneg (IntKind.u64.wrap a) (show (k : Int) ≠ 0 by omega)
  have h2 := Int.emod_lt_of_pos (IntKind.u64.wrap a) (show (0 : Int) < (k : Int) by omega)
  refine ⟨(IntKind.u64.wrap a % (k : Int)).toNat, by omega, ?_⟩
  rw [wr _ (by omega) (by omega)]
  omega
abbrev oo : ((0 : Int) != 0) = false := rfl
theorem top_round (n : Int) (hn : 1 ≤ n ∧ n ≤ 2) (B : FB) (j : Jn) (m : Nat) (hs : geA B n = (0, 0, 0, 0, 0)) (hm : m ≤ 100) (hi : Inv m 0 j) :
    purserlaw15_PeriodParts.l4 (n, (), B, j, (), B, j) = some (.inl (n + 1, (), mset KI VA B n (2000, 0, 0, 0, 0), postJ j (1, zTop n 2000), (), mset KI VA B n (2000, 0, 0, 0, 0), postJ j (1, zTop n 2000))) := by
  have t := (top_p B j n 2000 m (by omega) (by omega) hs hm hi).1
  unfold purserlaw15_PeriodParts.l4
  simp only
  have e : decide (n ≤ 2) = true := by simp; omega
  rw [e, cond_true, show (j.1, j.2.1, j.2.2.1, j.2.2.2) = j from rfl, t, Option.bind_some]
  simp only
  rw [oo, Bool.not_false, cond_true, Option.bind_some]
  simp only
  rw [Option.bind_some]
  simp only
  rw [oo, cond_false, wr (n + 1) (by omega) (by omega)]
theorem both12 {B : FB} {t u h : Int} (hs : ∀ n ∈ ([1, 2] : List Int), geA B n = (t, 0, 0, u, h)) : geA B 1 = (t, 0, 0, u, h) ∧ geA B 2 = (t, 0, 0, u, h) := ⟨hs 1 (by simp), hs 2 (by simp)⟩
theorem part_step (a1 : List Int) (a2 gr : Int) (hgr : IntKind.i64.wrap (1 + (IntKind.i64.wrap (Int.tmod (IntKind.u64.wrap a2) 8))) = gr) (hg : 1 ≤ gr ∧ gr ≤ 8) (i : Nat) (hi : i < a1.length) (hi12 : i < 12) (left u : Int) (hl : 1 ≤ left) (hu : 0 ≤ u) (hul : u + left ≤ 1000) (B : FB) (j : Jn) (hs : ∀ n ∈ ([1, 2] : List Int), geA B n = (2000, 0, 0, u, left)) (hj : Inv (3 + i) 0 j) :
    ∃ left' u' B' j', purserlaw15_PeriodParts.l14 a1 a2 (left, (i : Int), (), B, j) = some (.inl (left', ((i + 1 : Nat) : Int), (), B', j')) ∧ 0 ≤ left' ∧ 0 ≤ u' ∧ u' + left' = u + left ∧ (∀ n ∈ ([1, 2] : List Int), geA B' n = (2000, 0, 0, u', left')) ∧ Inv (3 + (i + 1)) 0 j' := by
  have hul' : IntKind.u64.wrap left = left := by rw [IntKind.wrap_u64]; omega
  obtain ⟨k, hk, ek⟩ := modN (a1.getD (i : Int).toNat 0) left.toNat (by omega) (by omega)
  have ek' : IntKind.i64.wrap (Int.tmod (IntKind.u64.wrap (a1.getD (i : Int).toNat 0)) left) = (k : Int) := by
    have : ((left.toNat : Nat) : Int) = left := by omega
    rw [this] at ek
    exact ek
  have ek2 : IntKind.i64.wrap (1 + (k : Int)) = 1 + (k : Int) := wr _ (by omega) (by omega)
  have ekl : IntKind.i64.wrap (left - (1 + (k : Int))) = left - (1 + (k : Int)) := wr _ (by omega) (by omega)
  obtain ⟨B', t1, t2, t3⟩ := commit_p path12 (zCom (1 + k) gr) B j 2000 u left (1 + k) gr (3 + i) (by omega) (by omega) (by omega) (by omega) hs ⟨_, loopO_of (n := 3) rfl⟩ (mCom (1 + k) gr (by omega) hg) (cCom (1 + k) gr (by omega) hg) (by omega) hj
  refine ⟨left - (1 + k), u + (1 + k), B', postJ j (4, zCom (1 + k) gr), ?_, by omega, by omega, by omega, t3, t2⟩
  unfold purserlaw15_PeriodParts.l14
  simp only
  have e1 : decide ((i : Int) < 12) = true := by simp; omega
  have e2 : decide (left > 0) = true := by simp; omega
  have e3 : (left != 0) = true := by simp; omega
  rw [ilt hi, e1, e2]
  simp only [cond_true, Option.bind_some]
  rw [nn, Bool.and_self, cond_true, hul', e3, cond_true, ek', ek2, hgr, show (j.1, j.2.1, j.2.2.1, j.2.2.2) = j from rfl, t1, Option.bind_some]
  simp only
  rw [oo, cond_false, ekl, wrS i (by omega)]
theorem part_end (a1 : List Int) (a2 : Int) (i : Nat) (left : Int) (B : FB) (j : Jn) (h : ¬ (i < a1.length ∧ i < 12 ∧ 0 < left)) : purserlaw15_PeriodParts.l14 a1 a2 (left, (i : Int), (), B, j) = some (.inr (.inr (left, (), B, j))) := by
  unfold purserlaw15_PeriodParts.l14
  simp only
  have e : ((bif decide ((i : Int) < (a1.length : Int)) then (bif decide ((i : Int) < 12) then (some (decide (left > 0))) else (some false)) else (some false)) : Option Bool) = some false := by
    by_cases h1 : i < a1.length
    · by_cases h2 : i < 12
      · have h3 : ¬ left > 0 := fun h3 => h ⟨h1, h2, h3⟩
        have e1 : decide ((i : Int) < 12) = true := by simp; omega
        rw [ilt h1, e1, decide_eq_false h3]; rfl
      · have e1 : decide ((i : Int) < 12) = false := by simp; omega
        rw [e1]; cases decide ((i : Int) < (a1.length : Int)) <;> rfl
    · have e1 : decide ((i : Int) < (a1.length : Int)) = false := by simp; omega
      rw [e1]; rfl
  rw [e]
  rfl
theorem parts (a1 : List Int) (a2 gr : Int) (hgr : IntKind.i64.wrap (1 + (IntKind.i64.wrap (Int.tmod (IntKind.u64.wrap a2) 8))) = gr) (hg : 1 ≤ gr ∧ gr ≤ 8) : ∀ (n i : Nat) (left u : Int) (B : FB) (j : Jn), i + n = 12 → 0 ≤ left → 0 ≤ u → u + left ≤ 1000 → (∀ n ∈ ([1, 2] : List Int), geA B n = (2000, 0, 0, u, left)) → Inv (3 + i) 0 j →
    ∃ left' u' B' j', loopO (purserlaw15_PeriodParts.l14 a1 a2) (left, (i : Int), (), B, j) = some (.inr (left', (), B', j')) ∧ 0 ≤ left' ∧ 0 ≤ u' ∧ u' + left' = u + left ∧ (∀ n ∈ ([1, 2] : List Int), geA B' n = (2000, 0, 0, u', left')) ∧ Inv 15 0 j'
  | n, i, left, u, B, j, hn, hl, hu, hul, hs, hj => by
    by_cases h : i < a1.length ∧ i < 12 ∧ 0 < left
    · match n, hn with
      | 0, hn => omega
      | n + 1, hn =>
        obtain ⟨l1, u1, B1, j1, k1, k2, k3, k4, k5, k6⟩ := part_step a1 a2 gr hgr hg i h.1 h.2.1 left u (by omega) hu hul B j hs hj
        obtain ⟨l2, u2, B2, j2, m1, m2, m3, m4, m5, m6⟩ := parts a1 a2 gr hgr hg n (i + 1) l1 u1 B1 j1 (by omega) k2 k3 (by omega) k5 k6
        refine ⟨l2, u2, B2, j2, ?_, m2, m3, by omega, m5, m6⟩
        rw [loopO_eq, k1]
        exact m1
    · refine ⟨left, u, B, j, ?_, hl, hu, rfl, hs, hj.le (by omega)⟩
      rw [loopO_eq, part_end a1 a2 i left B j h]
      rfl
theorem tops12 : ∃ (B : FB) (j : Jn), loopO purserlaw15_PeriodParts.l4 (1, (), ([] : FB), (([], (0, ([], [[]]))) : Jn), (), ([] : FB), (([], (0, ([], [[]]))) : Jn)) = some (.inr ((), B, j, (), B, j)) ∧ (∀ n ∈ ([1, 2] : List Int), geA B n = (2000, 0, 0, 0, 0)) ∧ Inv 2 0 j := by
  have i1 := (top_p ([] : FB) ([], (0, ([], [[]]))) 1 2000 0 (by omega) (by omega) rfl (by omega) inv_new).2
  have g2 : geA (mset KI VA ([] : FB) 1 (2000, 0, 0, 0, 0)) 2 = (0, 0, 0, 0, 0) := by rw [geA_set, if_neg (by omega)]; rfl
  have i2 := (top_p (mset KI VA ([] : FB) 1 (2000, 0, 0, 0, 0)) _ 2 2000 1 (by omega) (by omega) g2 (by omega) i1).2
  refine ⟨mset KI VA (mset KI VA ([] : FB) 1 (2000, 0, 0, 0, 0)) 2 (2000, 0, 0, 0, 0), _, ?_, ?_, i2⟩
  · rw [loopO_eq, top_round 1 (by omega) ([] : FB) ([], (0, ([], [[]]))) 0 rfl (by omega) inv_new]
    simp only [Option.bind_some]
    rw [loopO_eq, show (1 : Int) + 1 = 2 from rfl, top_round 2 (by omega) _ _ 1 g2 (by omega) i1]
    simp only [Option.bind_some]
    rw [loopO_eq]
    rfl
  · intro n hn
    have : n = 1 ∨ n = 2 := by simpa using hn
    rcases this with rfl | rfl
    · rw [geA_set, if_neg (by omega), geA_set, if_pos rfl]
    · rw [geA_set, if_pos rfl]
/-- the last line: both have the same, and nothing is held -/
theorem last_eq (B B' : FB) (j j' : Jn) (u gr : Int) (hs : ∀ n ∈ ([1, 2] : List Int), geA B n = (2000, 0, 0, u, 0)) (hs' : ∀ n ∈ ([1, 2] : List Int), geA B' n = (2000, 0, 0, u, 0)) :
    geA B 1 = geA B' 1 ∧ geA B 2 = geA B' 2 ∧ geA B 1 = (2000, 0, 0, u, 0) := by
  obtain ⟨a, b⟩ := both12 hs
  obtain ⟨c, d⟩ := both12 hs'
  exact ⟨a.trans c.symm, b.trans d.symm, a⟩
theorem PeriodParts (a0 : Int) (a1 : List Int) (a2 : Int) (w0 : wfTy (.int .i64) a0) (w1 : wfTy (.slice (.int .i64)) a1) (w2 : wfTy (.int .i64) a2) : purserlaw15_PeriodParts.f a0 a1 a2 = some true := by
  obtain ⟨A, hA, eA⟩ : ∃ A : Int, (1 ≤ A ∧ A ≤ 1000) ∧ IntKind.i64.wrap (1 + (IntKind.i64.wrap (Int.tmod (IntKind.u64.wrap a0) 1000))) = A := by
    obtain ⟨n, hn, e⟩ := modN a0 1000 (by omega) (by omega)
    have e' : IntKind.i64.wrap (Int.tmod (IntKind.u64.wrap a0) 1000) = (n : Int) := e
    exact ⟨1 + n, by omega, by rw [e', wr _ (by omega) (by omega)]⟩
  obtain ⟨gr, hg, eg⟩ : ∃ A : Int, (1 ≤ A ∧ A ≤ 8) ∧ IntKind.i64.wrap (1 + (IntKind.i64.wrap (Int.tmod (IntKind.u64.wrap a2) 8))) = A := by
    obtain ⟨n, hn, e⟩ := modN a2 8 (by omega) (by omega)
    have e' : IntKind.i64.wrap (Int.tmod (IntKind.u64.wrap a2) 8) = (n : Int) := e
    exact ⟨1 + n, by omega, by rw [e', wr _ (by omega) (by omega)]⟩
  obtain ⟨B2, j2, h4, s2, i2⟩ := tops12
  obtain ⟨B3, h5, i3, s3⟩ := hold_p path12 (l := [1, 2]) (lim := [-1, -1]) rfl (by simp) (zHold A) B2 j2 2000 0 0 A 2 (by omega) (by omega) (by omega) (by omega) s2 ⟨_, loopO_of (n := 3) rfl⟩ (mHold A (by omega)) (cHold A (by omega)) (by omega) i2
  generalize postJ j2 (2, zHold A) = j3 at h5 i3
  have s3' : ∀ n ∈ ([1, 2] : List Int), geA B3 n = (2000, 0, 0, 0, A) := fun n hn => by rw [s3 n hn, Int.zero_add]
  obtain ⟨left, u, B4, j4, h6, l1, l2, l3, s4, i4⟩ := parts a1 a2 gr eg hg 12 0 A 0 B3 j3 (by omega) (by omega) (by omega) (by omega) s3' i3
  have eu : IntKind.i64.wrap (A - left) = u := by rw [wr _ (by omega) (by omega)]; omega
  have h6' : loopO (purserlaw15_PeriodParts.l14 a1 a2) (A, 0, (), B3, j3) = some (.inr (left, (), B4, j4)) := h6
  -- the other purse, and what is behind the releases
  have fin : ∃ (B5 : FB) (j5 : Jn) (B6 : FB) (j6 : Jn), (∀ n ∈ ([1, 2] : List Int), geA B5 n = (2000, 0, 0, u, 0)) ∧ (∀ n ∈ ([1, 2] : List Int), geA B6 n = (2000, 0, 0, u, 0)) ∧
      ((bif decide (left > 0) then ((period_Purse_Release.f (B4, j4) ([1, 2] : List Int) left).bind fun r20 => bif !(r20.2 != 0) then ((period_Purse_Release.f (B3, j3) ([1, 2] : List Int) left).bind fun r21 => bif !(r21.2 != 0) then (bif decide (u > 0) then ((period_Purse_Commit.f r21.1 ([1, 2] : List Int) u gr).bind fun r22 => some ((r22.2 != 0), (), r20.1.1, r20.1.2, (), r22.1.1, r22.1.2)) else (some (false, (), r20.1.1, r20.1.2, (), r21.1.1, r21.1.2))) else (some (true, (), r20.1.1, r20.1.2, (), r21.1.1, r21.1.2))) else (some (true, (), r20.1.1, r20.1.2, (), B3, j3))) else (bif decide (u > 0) then ((period_Purse_Commit.f (B3, j3) ([1, 2] : List Int) u gr).bind fun r23 => some ((r23.2 != 0), (), B4, j4, (), r23.1.1, r23.1.2)) else (some (false, (), B4, j4, (), B3, j3)))) : Option (Bool × Unit × FB × Jn × Unit × FB × Jn)) = some (false, (), B5, j5, (), B6, j6) := by
    by_cases hl : 0 < left
    · obtain ⟨B5, r1, r2, r3⟩ := release_p path12 (zRel left) B4 j4 2000 u left left 15 (by omega) (by omega) (by omega) (by omega) s4 ⟨_, loopO_of (n := 3) rfl⟩ (mRel left (by omega)) (cRel left (by omega)) (by omega) i4
      obtain ⟨B6, q1, q2, q3⟩ := release_p path12 (zRel left) B3 j3 2000 0 A left 15 (by omega) (by omega) (by omega) (by omega) s3' ⟨_, loopO_of (n := 3) rfl⟩ (mRel left (by omega)) (cRel left (by omega)) (by omega) (i3.le (by omega))
      have r3' : ∀ n ∈ ([1, 2] : List Int), geA B5 n = (2000, 0, 0, u, 0) := fun n hn => by rw [r3 n hn, Int.sub_self]
      have d1 : decide (left > 0) = true := by simp; omega
      by_cases hu : 0 < u
      · obtain ⟨B7, c1, c2, c3⟩ := commit_p path12 (zCom u gr) B6 (postJ j3 (3, zRel left)) 2000 0 (A - left) u gr 16 (by omega) (by omega) (by omega) (by omega) q3 ⟨_, loopO_of (n := 3) rfl⟩ (mCom u gr (by omega) hg) (cCom u gr (by omega) hg) (by omega) q2
        have d2 : decide (u > 0) = true := by simp; omega
        refine ⟨B5, postJ j4 (3, zRel left), B7, postJ (postJ j3 (3, zRel left)) (4, zCom u gr), r3', fun n hn => ?_, ?_⟩
        · rw [c3 n hn, Int.zero_add, show A - left - u = 0 by omega]
        · rw [d1, d2, cond_true, r1, Option.bind_some]
          simp only
          rw [oo, Bool.not_false, cond_true, q1, Option.bind_some]
          simp only
          rw [oo, Bool.not_false, cond_true, cond_true, c1, Option.bind_some]
          rfl
      · have d2 : decide (u > 0) = false := by simp; omega
        have u0 : u = 0 := by omega
        refine ⟨B5, postJ j4 (3, zRel left), B6, postJ j3 (3, zRel left), r3', fun n hn => ?_, ?_⟩
        · rw [q3 n hn, show A - left = 0 by omega, u0]
        · rw [d1, d2, cond_true, r1, Option.bind_some]
          simp only
          rw [oo, Bool.not_false, cond_true, q1, Option.bind_some]
          rfl
    · have l0 : left = 0 := by omega
      have d1 : decide (left > 0) = false := by simp; omega
      have d2 : decide (u > 0) = true := by simp; omega
      obtain ⟨B7, c1, c2, c3⟩ := commit_p path12 (zCom u gr) B3 j3 2000 0 A u gr 3 (by omega) (by omega) (by omega) (by omega) s3' ⟨_, loopO_of (n := 3) rfl⟩ (mCom u gr (by omega) hg) (cCom u gr (by omega) hg) (by omega) i3
      refine ⟨B4, j4, B7, postJ j3 (4, zCom u gr), fun n hn => ?_, fun n hn => ?_, ?_⟩
      · rw [s4 n hn, l0]
      · rw [c3 n hn, Int.zero_add, show A - u = 0 by omega]
      · rw [d1, d2, cond_false, cond_true, c1, Option.bind_some]
        rfl
  obtain ⟨B5, j5, B6, j6, s5, s6, hf⟩ := fin
  obtain ⟨x1, x2, x3⟩ := last_eq B5 B6 j5 j6 u gr s5 s6
  unfold purserlaw15_PeriodParts.f
  rw [eA, eg, newP, Option.bind_some, Option.bind_some, purses_eq, Option.bind_some, Bool.not_true, cond_false]
  simp only
  rw [h4, Option.bind_some]
  simp only
  rw [show (j2.1, j2.2.1, j2.2.2.1, j2.2.2.2) = j2 from rfl, h5]
  simp only [Option.bind_some]
  rw [oo, Bool.not_false, cond_true, Option.bind_some]
  simp only
  rw [cond_false, show (j3.1, j3.2.1, j3.2.2.1, j3.2.2.2) = j3 from rfl, h6', Option.bind_some]
  simp only
  rw [show (j4.1, j4.2.1, j4.2.2.1, j4.2.2.2) = j4 from rfl, eu]
  refine Option.bind_eq_some_iff.2 ⟨_, hf, ?_⟩
  simp only
  rw [cond_false]
  rw [show (j5.1, j5.2.1, j5.2.2.1, j5.2.2.2) = j5 from rfl, show (j6.1, j6.2.1, j6.2.2.1, j6.2.2.2) = j6 from rfl, get_p B5 j5 1, Option.bind_some, get_p B6 j6 1, Option.bind_some, ← x1]
  simp only [beq_self_eq_true, Bool.and_self, cond_true]
  rw [show (j5.1, j5.2.1, j5.2.2.1, j5.2.2.2) = j5 from rfl, show (j6.1, j6.2.1, j6.2.2.1, j6.2.2.2) = j6 from rfl, get_p B5 j5 2, Option.bind_some, get_p B6 j6 2, Option.bind_some, ← x2]
  simp only [beq_self_eq_true, Bool.and_self, cond_true]
  rw [show (j5.1, j5.2.1, j5.2.2.1, j5.2.2.2) = j5 from rfl, get_p B5 j5 1, Option.bind_some, x3]
  simp only [beq_self_eq_true, Bool.and_self, cond_true]
  rw [show (j5.1, j5.2.1, j5.2.2.1, j5.2.2.2) = j5 from rfl, get_p B5 j5 1, Option.bind_some, x3]
  simp only [beq_self_eq_true, Bool.and_self, cond_true]
  rw [show (j5.1, j5.2.1, j5.2.2.1, j5.2.2.2) = j5 from rfl]
  rw [commit_no_p B5 j5 2000 u gr s5]
  rfl
end Go.Proofs.Ytniohchnpfpffaa.Pure
