/- The law PeriodRolls, in plain Lean. No statement of its own. -/
import Derived.Test.YtniohchnpfpffaaGreatRf
namespace Go.Proofs.YtniohchnpfpffaaGreat.Pure
open Go.Vk Go.Am Go.Pg Go.Sort Go.Proofs.YtniohchnpfpffaaGreat.Y
set_option linter.unusedVariables false
set_option linter.unusedSimpArgs false

theorem modN (a : Int) (k : Nat) (hk : 0 < k) (hk2 : k ≤ 1000) : ∃ n : Nat, n < k ∧ IntKind.i64.wrap (Int.tmod (IntKind.u64.wrap a) (k : Int)) = (n : Int) := by
  have h0 : 0 ≤ IntKind.u64.wrap a ∧ IntKind.u64.wrap a < 18446744073709551616 := by
    rw [IntKind.wrap_u64]; omega
  rw [Int.tmod_eq_emod_of_nonneg h0.1]
  have h1 := Int.emod_nonneg (IntKind.u64.wrap a) (show (k : Int) ≠ 0 by omega)
  have h2 := Int.emod_lt_of_pos (IntKind.u64.wrap a) (show (0 : Int) < (k : Int) by omega)
  refine ⟨(IntKind.u64.wrap a % (k : Int)).toNat, by omega, ?_⟩
  rw [wr _ (by omega) (by omega)]
  omega
/-- a purse behind i rolls: node 3 alone has something -/
structure PR (i : Nat) (left : Int) (B : FB) (j : Jn) : Prop where
  book : ∃ N, N ≤ 32 * (i + 1) ∧ BOk B N
  jou : JI i (i + 1) j
  oth : ∀ k, k ≠ 3 → geA B k = V0
  held : (geA B 3).2.2.2.2 = 0
  lft : leftA (geA B 3) = left
  nil : left = 0 → geA B 3 = V0
theorem PR.ks {i : Nat} {left : Int} {B : FB} {j : Jn} (h : PR i left B j) : ksOf B = if left = 0 then [] else [3] := by
  by_cases h0 : left = 0
  · rw [if_pos h0]
    unfold ksOf
    rw [List.filter_eq_nil_iff]
    intro n _
    have : geA B n = V0 := by
      by_cases h3 : n = 3
      · rw [h3]; exact h.nil h0
      · exact h.oth n h3
    simp [this]
  · rw [if_neg h0]
    have h3 : geA B 3 ≠ V0 := fun e => h0 (by rw [← h.lft, e]; rfl)
    have : ksOf B = nodes32.filter (fun n => decide (n = 3)) := by
      unfold ksOf
      refine List.filter_congr fun n _ => ?_
      by_cases hn : n = 3
      · subst hn; simp [h3]
      · simp [hn, h.oth n hn]
    rw [this]
    decide
theorem pr_roll {i : Nat} {left : Int} {B : FB} {j : Jn} (h : PR i left B j) (hi : i < 31) (c : List Int) (cy : Bool) (hc : c = if cy then [3] else []) :
    ∃ B' j', period_Purse_Roll.f (B, j) c = some ((B', j'), (if cy then 0 else left, 0)) ∧ PR (i + 1) (if cy then left else 0) B' j' := by
  obtain ⟨N, hN, hB⟩ := h.book
  have hlen := h.jou.list
  have hcl : c.length ≤ 1 := by subst hc; cases cy <;> simp
  have hg : (goneL c B (ksOf B)).length ≤ 1 := by
    refine Nat.le_trans (goneL_len _ _ _) ?_
    rw [h.ks]; split <;> simp
  have hr := roll_p hB (by omega) h.jou (by omega) (by omega) c (by omega)
  rw [if_neg (by omega)] at hr
  obtain ⟨k1, k2⟩ := roll_bok c hB
  have hP := close_ji (postAll_ji (goneL c B (ksOf B)) h.jou) hi
  have hmem : ∀ q : Int, decide (q ∈ c) = (cy && decide (q = 3)) := fun q => by subst hc; cases cy <;> simp
  refine ⟨rollB c B (ksOf B), closeJ (postAll j (goneL c B (ksOf B))), ?_, ⟨⟨_, ?_, k1⟩, ?_, fun k hk => ?_, ?_, ?_, ?_⟩⟩
  · rw [hr]
    congr 3
    rw [h.ks]
    by_cases h0 : left = 0
    · rw [if_pos h0]; cases cy <;> simp [sumL, h0]
    · rw [if_neg h0]
      simp only [List.map_cons, List.map_nil, sumL, goneA]
      have := hmem 3
      cases cy with
      | true => rw [if_pos (by simpa using this)]; simp
      | false => rw [if_neg (by simpa using this), h.lft]; simp
  · omega
  · exact ⟨hP.per, hP.mov, hP.p31, by have := hP.list; omega⟩
  · rw [k2, h.oth k hk]; rfl
  · rw [k2]
    split
    · rfl
    · exact h.held
  · rw [k2]
    by_cases hz : geA B 3 = V0
    · rw [if_pos hz]
      have : left = 0 := by rw [← h.lft, hz]; rfl
      rw [this]; cases cy <;> rfl
    · rw [if_neg hz, hmem]
      have hl := h.lft
      have hh := h.held
      cases cy with
      | true =>
        show leftA (0, leftA (geA B 3) + (geA B 3).2.2.2.2 - 0, 0, 0, (geA B 3).2.2.2.2) = left
        rw [hl, hh]
        show 0 + (left + 0 - 0) - 0 - 0 - 0 = left
        omega
      | false =>
        show leftA (0, leftA (geA B 3) + (geA B 3).2.2.2.2 - leftA (geA B 3), 0, 0, (geA B 3).2.2.2.2) = 0
        rw [hl, hh]
        show 0 + (left + 0 - left) - 0 - 0 - 0 = 0
        omega
  · intro h0
    rw [k2]
    by_cases hz : geA B 3 = V0
    · rw [if_pos hz]
    · rw [if_neg hz, hmem]
      have hl := h.lft
      have hh := h.held
      cases cy with
      | true => exact absurd (h.nil h0) hz
      | false =>
        show ((0, leftA (geA B 3) + (geA B 3).2.2.2.2 - leftA (geA B 3), 0, 0, (geA B 3).2.2.2.2) : FA) = V0
        rw [hl, hh, show left + 0 - left = 0 by omega]
theorem pr_full {left : Int} {B : FB} {j : Jn} (h : PR 31 left B j) (c : List Int) (hc : c.length ≤ 1000) : period_Purse_Roll.f (B, j) c = some ((B, j), (0, 10)) := by
  obtain ⟨N, hN, hB⟩ := h.book
  have hr := roll_p hB (by omega) h.jou (by omega) (by omega) c (by omega)
  rw [if_pos (.inl rfl)] at hr
  exact hr
theorem PeriodRolls (x0 : Int) (x1 : Int) (x2 : Bool) (wf0 : wfTy (.int .i64) x0) (wf1 : wfTy (.int .i64) x1) (wf2 : wfTy .bool x2) : purserlaw15_PeriodRolls.f x0 x1 x2 = some true := by
  obtain ⟨n, hn, en⟩ := modN x0 36 (by omega) (by omega)
  obtain ⟨k, hk, ek⟩ := modN x1 1000 (by omega) (by omega)
  have en : IntKind.i64.wrap (Int.tmod (IntKind.u64.wrap x0) 36) = (n : Int) := en
  have ek : IntKind.i64.wrap (Int.tmod (IntKind.u64.wrap x1) 1000) = (k : Int) := ek
  have ea : IntKind.i64.wrap (1 + (k : Int)) = 1 + (k : Int) := wr _ (by omega) (by omega)
  obtain ⟨t1, t2⟩ := top_p [] ([], (0, ([], [[]]))) 3 (1 + k) 0 (by omega) (by omega) rfl (by omega) inv_new
  have hb : BOk (mset KI VA ([] : FB) 3 (1 + (k : Int), 0, 0, 0, 0)) 1 := by
    have h1 : OkA ((1 + (k : Int), 0, 0, 0, 0) : FA) := ⟨by simp; omega, by simp, by simp, by simp, by simp, by simp; omega, by simp [leftA]; omega⟩
    have := setA_ok bok_new (n := 3) (by omega) h1
    unfold setA at this
    rw [if_neg (by intro e; injection e with e _; omega)] at this
    exact this
  have h0 : PR 0 (1 + (k : Int)) (mset KI VA ([] : FB) 3 (1 + (k : Int), 0, 0, 0, 0)) (postJ ([], (0, ([], [[]]))) (1, zTop 3 (1 + k))) := by
    refine ⟨⟨1, by omega, hb⟩, ⟨rfl, rfl, by omega, by simp [postJ]⟩, fun q hq => ?_, ?_, ?_, fun h => by omega⟩
    · rw [geA_set, if_neg hq]; rfl
    · rw [geA_set, if_pos rfl]
    · rw [geA_set, if_pos rfl]; simp [leftA]
  have e0 : ((0 : Int) != 0) = false := rfl
  unfold purserlaw15_PeriodRolls.f
  rw [newP, Option.bind_some, purses_eq, Option.bind_some, Bool.not_true, Bool.not_false, cond_true]
  simp only
  rw [ek, ea, t1, Option.bind_some]
  simp only
  rw [e0, Option.bind_some]
  simp only
  rw [cond_false]
  generalize hc : (if x2 then [3] else [] : List Int) = c
  have hcond : (((bif x2 then (some ([3] : List Int)) else (some ([]))) : Option ((List Int)))) = some c := by subst hc; cases x2 <;> rfl
  rw [hcond, Option.bind_some]
  -- the rounds
  have rounds : ∀ (d i : Nat) (left : Int) (B : FB) (j : Jn), i + d = n → PR (min i 31) left B j → (i < 31 → left = if i = 0 ∨ x2 = true then 1 + (k : Int) else 0) →
      ∃ left' B' j', PR (min n 31) left' B' j' ∧ loopO (purserlaw15_PeriodRolls.l6 x0 x2 c) (left, (i : Int), (), B, j) = some (.inr ((), B', j')) := by
    intro d
    induction d with
    | zero =>
      intro i left B j hi hP hl
      refine ⟨left, B, j, by rw [← show i = n by omega]; exact hP, ?_⟩
      rw [loopO_eq]
      unfold purserlaw15_PeriodRolls.l6
      simp only
      rw [en, show i = n by omega, ige]
      rfl
    | succ d ih =>
      intro i left B j hi hP hl
      rw [loopO_eq]
      have hs : ∃ left' B' j', purserlaw15_PeriodRolls.l6 x0 x2 c (left, (i : Int), (), B, j) = some (.inl (left', ((i + 1 : Nat) : Int), (), B', j')) ∧ PR (min (i + 1) 31) left' B' j' ∧ (i + 1 < 31 → left' = if i + 1 = 0 ∨ x2 = true then 1 + (k : Int) else 0) := by
        unfold purserlaw15_PeriodRolls.l6
        simp only
        rw [en, ilt (show i < n by omega), cond_true, show (j.1, (j.2.1, (j.2.2.1, j.2.2.2))) = j from rfl]
        by_cases h31 : i < 31
        · rw [show min i 31 = i by omega] at hP
          obtain ⟨B', j', r1, r2⟩ := pr_roll hP h31 c x2 hc.symm
          obtain ⟨N', _, hB'⟩ := r2.book
          have hav : period_Purse_Available.f (B', (j'.1, (j'.2.1, (j'.2.2.1, j'.2.2.2)))) 3 = some ((B', j'), if x2 then left else 0) := by
            rw [show (B', (j'.1, (j'.2.1, (j'.2.2.1, j'.2.2.2)))) = (B', j') from rfl, avail_p, left_ok (hB'.ok 3), r2.lft]
            rfl
          refine ⟨if x2 then left else 0, B', j', ?_, by rw [show min (i + 1) 31 = i + 1 by omega]; exact r2, fun h => ?_⟩
          · rw [r1, Option.bind_some, show decide ((i : Int) ≥ 31) = false by simp; omega, cond_false]
            have hx : (((bif (!x2) then (some (0, left)) else (some (left, 0))) : Option ((Int × Int)))) = some (if x2 then left else 0, if x2 then 0 else left) := by cases x2 <;> rfl
            rw [hx, Option.bind_some]
            simp only
            rw [e0, Bool.not_false, cond_true, show ((if x2 = true then (0 : Int) else left) != if x2 = true then 0 else left) = false by simp, Bool.not_false, cond_true, hav, Option.bind_some]
            simp only
            rw [show ((if x2 = true then left else (0 : Int)) != if x2 = true then left else 0) = false by simp, Option.bind_some]
            simp only
            rw [cond_false, Option.bind_some]
            simp only
            rw [wrS i (by omega)]
          · have := hl h31
            cases x2 with
            | true => simpa using this
            | false => simp
        · rw [show min i 31 = 31 by omega] at hP
          have r1 := pr_full hP c (by subst hc; cases x2 <;> simp)
          refine ⟨left, B, j, ?_, by rw [show min (i + 1) 31 = 31 by omega]; exact hP, fun h => by omega⟩
          rw [r1, Option.bind_some, show decide ((i : Int) ≥ 31) = true by simp; omega, cond_true]
          have e1 : ((10 : Int) != 10) = false := rfl
          simp only
          rw [e1, Bool.not_false, cond_true, e0, Option.bind_some, cond_false, Option.bind_some]
          simp only
          rw [wrS i (by omega)]
      obtain ⟨left', B', j', h1, h2, h3⟩ := hs
      rw [h1]
      simp only [Option.bind_some]
      exact ih (i + 1) left' B' j' (by omega) h2 h3
  obtain ⟨left', B', j', h1, h2⟩ := rounds n 0 (1 + (k : Int)) _ _ (by omega) h0 (fun _ => by simp)
  rw [show ((0 : Nat) : Int) = 0 from rfl] at h2
  rw [h2, Option.bind_some]
  simp only
  rw [show journal_Journal_Period.f (j'.1, (j'.2.1, (j'.2.2.1, j'.2.2.2))) = some (j', j'.2.1) from rfl, Option.bind_some, h1.jou.per, en]
  simp only
  congr 1
  by_cases hlt : (31 : Int) < (n : Int)
  · rw [if_pos hlt]; simp; omega
  · rw [if_neg hlt]; simp; omega
end Go.Proofs.YtniohchnpfpffaaGreat.Pure
