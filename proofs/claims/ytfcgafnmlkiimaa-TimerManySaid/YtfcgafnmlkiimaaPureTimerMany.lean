/- The plain law of TimerMany: what the law computes is true, whatever the input. -/
import Derived.Test.YtfcgafnmlkiimaaTd
namespace Go.Proofs.Ytfcgafnmlkiimaa.Pure
open Go.Vk Go.Am Go.Pg Go.Hp Go.Proofs Go.Proofs.Ytfcgafnmlkiimaa.Y
set_option linter.unusedVariables false
set_option linter.unusedSimpArgs false
theorem inR_of {id at_ : Int} (h1 : 1 ≤ id) (h2 : id ≤ 100000) (h3 : 0 ≤ at_) (h4 : at_ ≤ 100000) : inR id at_ = true := by
  unfold inR
  simp; omega
theorem TimerMany (a0 : Int) (a1 : List Int) (w0 : wfTy (.int .i64) a0) (w1 : wfTy (.slice (.int .i64)) a1) : purserlaw19_TimerMany.f a0 a1 = some true := by
  obtain ⟨r, hr, hr0, hr1⟩ := rest_in a0 1000 (by decide) (by decide)
  have hfrom : IntKind.i64.wrap (1 + r) = 1 + r := wr _ (by omega) (by omega)
  -- 1024 numbers
  have hloop : ∀ (m i : Nat) (x : Tm) (S : List (Int × Int)), i + m = 1024 → Rl x S → S.length = i → (∀ p ∈ S, 1 + r ≤ p.2 ∧ p.2 < 1 + r + i ∧ p.1 < 5000) → (0 < i → ∃ p ∈ S, p.2 = 1 + r) →
      ∃ x' S', loopO (purserlaw19_TimerMany.l3 a0 a1) ((i : Int), x) = some (.inr x') ∧ Rl x' S' ∧ S'.length = 1024 ∧ (∀ p ∈ S', 1 + r ≤ p.2 ∧ p.2 < 1 + r + 1024 ∧ p.1 < 5000) ∧ ∃ p ∈ S', p.2 = 1 + r := by
    intro m
    induction m with
    | zero =>
      intro i x S hi h hl hp h0
      obtain rfl : i = 1024 := by omega
      have hs : purserlaw19_TimerMany.l3 a0 a1 (((1024 : Nat) : Int), x) = some (.inr (.inr x)) := rfl
      exact ⟨x, S, by rw [loopO_eq, hs]; rfl, h, hl, hp, h0 (by omega)⟩
    | succ m ih =>
      intro i x S hi h hl hp h0
      have hat : ∃ t : Int, ((bif decide ((i : Int) < (a1.length : Int)) then (bif (decide (0 ≤ (i : Int)) && decide ((i : Int) < (a1.length : Int))) then (some (IntKind.i64.wrap (Int.tmod (IntKind.u64.wrap (a1.getD (i : Int).toNat 0)) 5000))) else none) else (some (i : Int))) : Option Int) = some t ∧ 0 ≤ t ∧ t < 5000 := by
        by_cases hlt : i < a1.length
        · obtain ⟨q, hq, hq0, hq1⟩ := rest_in (a1.getD (i : Int).toNat 0) 5000 (by decide) (by decide)
          rw [ilt hlt, nn, hq]
          exact ⟨q, rfl, hq0, hq1⟩
        · have : decide ((i : Int) < (a1.length : Int)) = false := by simp; omega
          rw [this]
          exact ⟨(i : Int), rfl, by omega, by omega⟩
      obtain ⟨t, ht, ht0, ht1⟩ := hat
      have hid : IntKind.i64.wrap (1 + r + (i : Int)) = 1 + r + i := wr _ (by omega) (by omega)
      have hno : ∀ p ∈ S, p.2 ≠ 1 + r + (i : Int) := fun p hpm => by have := hp p hpm; omega
      obtain ⟨x', s1, s2⟩ := set_in h (1 + r + i) t (inR_of (by omega) (by omega) ht0 (by omega)) (.inr (by omega))
      rw [rm_none hno] at s2
      have hs : purserlaw19_TimerMany.l3 a0 a1 ((i : Int), x) = some (.inl (((i + 1 : Nat) : Int), x')) := by
        unfold purserlaw19_TimerMany.l3
        have e1 : decide ((i : Int) < 1024) = true := by simp; omega
        simp only [e1, cond_true, ht, Option.bind_some, hr, hfrom, hid, e3, s1, wrS i (by omega)]
        rfl
      rw [loopO_eq, hs]
      simp only [Option.bind_some]
      refine ih (i + 1) x' _ (by omega) s2 (by rw [ins_len, hl]) (fun p hpm => ?_) (fun _ => ?_)
      · rcases mem_ins.1 hpm with rfl | hpm
        · simp only; omega
        · have := hp p hpm; omega
      · by_cases hz : i = 0
        · subst hz
          exact ⟨(t, 1 + r + (0 : Nat)), mem_ins.2 (.inl rfl), by simp⟩
        · obtain ⟨p, h1, h2⟩ := h0 (by omega)
          exact ⟨p, mem_ins.2 (.inr h1), h2⟩
  obtain ⟨x1, S1, f1, f2, f3, f4, p0, f5, f6⟩ := hloop 1024 0 ([], ([], [])) [] rfl rl_new rfl (fun p h => by simp at h) (fun h => absurd h (by omega))
  have hn : timer_New.f = some ([], ([], [])) := rfl
  have hfull : timer_Timers_Set.f x1 (1 + r + 2000) 1 = some (x1, 10) := by
    rcases set_rl f2 (1 + r + 2000) 1 with ⟨h1, _⟩ | ⟨_, _, _, h4⟩ | ⟨_, h3, _⟩
    · rw [inR_of (by omega) (by omega) (by omega) (by omega)] at h1; cases h1
    · exact h4
    · rcases h3 with ⟨p, hp, e⟩ | h3
      · have := f4 p hp; omega
      · omega
  obtain ⟨x2, g1, g2⟩ := set_in f2 (1 + r) 6000 (inR_of (by omega) (by omega) (by omega) (by omega)) (.inl ⟨p0, f5, f6⟩)
  have hlen : (rm (1 + r) S1).length = 1023 := by
    have := rm_len f2.srt f5
    rw [f6] at this
    omega
  obtain ⟨x3, k1, k2⟩ := due_r g2 5000
  have hp5 : ∀ p ∈ rm (1 + r) S1, p.1 < 5000 := fun p hp => (f4 p (mem_rm.1 hp).1).2.2
  have hb : (bel 5000 (ins (6000, 1 + r) (rm (1 + r) S1))).length = 1023 := by
    have := (ins_perm (6000, 1 + r) (rm (1 + r) S1)).filter (fun p => decide (p.1 < 5000))
    unfold bel
    rw [this.length_eq, List.filter_cons_of_neg (by simp), List.filter_eq_self.2 fun p hp => by simpa using hp5 p hp, hlen]
  have ha : (abv 5000 (ins (6000, 1 + r) (rm (1 + r) S1))).length = 1 := by
    have := congrArg List.length (bel_abv g2.srt 5000)
    rw [List.length_append, hb, ins_len, hlen] at this
    omega
  have hl3 := len_rl k2
  rw [ha] at hl3
  have h2000 : IntKind.i64.wrap (1 + r + 2000) = 1 + r + 2000 := wr _ (by omega) (by omega)
  have f1' : loopO (purserlaw19_TimerMany.l3 a0 a1) (0, ([], ([], []))) = some (.inr x1) := f1
  unfold purserlaw19_TimerMany.f
  rw [hn, timers_eq]
  simp only [Option.bind_some, Bool.not_true, cond_false, f1', hr, hfrom, h2000, e3, hfull, g1, k1, List.length_map, hb, hl3]
  rfl
end Go.Proofs.Ytfcgafnmlkiimaa.Pure
