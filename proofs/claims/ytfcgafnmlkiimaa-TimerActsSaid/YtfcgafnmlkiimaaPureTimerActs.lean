/- The plain law of TimerActs: what the law computes is true, whatever the input. -/
import Derived.Test.YtfcgafnmlkiimaaTe
namespace Go.Proofs.Ytfcgafnmlkiimaa.Pure
open Go.Vk Go.Am Go.Pg Go.Hp Go.Proofs Go.Proofs.Ytfcgafnmlkiimaa.Y
set_option linter.unusedVariables false
set_option linter.unusedSimpArgs false
theorem act_set {x : Tm} {S : List (Int × Int)} (h : Rl x S) (id at_ : Int) : ∃ x' S' e, timer_Timers_Set.f x id at_ = some (x', e) ∧ purserref19_Timers_DocSet.f (S.map fl) id at_ = some (S'.map fl, e) ∧ Rl x' S' := by
  have hc := h.inv.cap
  rw [h.len] at hc
  rcases set_rl h id at_ with ⟨h1, h2⟩ | ⟨h1, h2, h3, h4⟩ | ⟨h1, h2, x', h3, h4⟩ <;> rcases docset_eq h.srt hc id at_ with ⟨k1, k2⟩ | ⟨k1, k2, k3, k4⟩ | ⟨k1, k2, k3⟩
  · exact ⟨x, S, 1, h2, k2, h⟩
  · rw [h1] at k1; cases k1
  · rw [h1] at k1; cases k1
  · rw [h1] at k1; cases k1
  · exact ⟨x, S, 10, h4, k4, h⟩
  · rcases k2 with ⟨p, hp, e⟩ | k2
    · exact absurd e (h2 p hp)
    · omega
  · rw [h1] at k1; cases k1
  · rcases h2 with ⟨p, hp, e⟩ | h2
    · exact absurd e (k2 p hp)
    · omega
  · exact ⟨x', _, 0, h3, k3, h4⟩
theorem act_drop {x : Tm} {S : List (Int × Int)} (h : Rl x S) (id : Int) : ∃ x' S' e, timer_Timers_Drop.f x id = some (x', e) ∧ purserref19_Timers_DocDrop.f (S.map fl) id = some (S'.map fl, e) ∧ Rl x' S' := by
  have hc := h.inv.cap
  rw [h.len] at hc
  rcases drop_rl h id with ⟨h1, h2⟩ | ⟨⟨p, hp, e⟩, x', h3, h4⟩ <;> rcases docdrop_eq h.srt hc id with ⟨k1, k2⟩ | ⟨⟨q, hq, e'⟩, k2⟩
  · exact ⟨x, S, 7, h2, k2, h⟩
  · exact absurd e' (h1 q hq)
  · exact absurd e (k1 p hp)
  · exact ⟨x', _, 0, h3, k2, h4⟩
theorem act_due {x : Tm} {S : List (Int × Int)} (h : Rl x S) (now : Int) : ∃ x' S' l, timer_Timers_Due.f x now = some (x', l) ∧ purserref19_Timers_DocDue.f (S.map fl) now = some (S'.map fl, l) ∧ Rl x' S' ∧ l.length ≤ 1024 := by
  have hc := h.inv.cap
  rw [h.len] at hc
  obtain ⟨x', h1, h2⟩ := due_r h now
  exact ⟨x', _, _, h1, docdue_eq h.srt hc now, h2, by rw [List.length_map]; exact Nat.le_trans (List.length_filter_le _ _) hc⟩
/-- a row's step, and the document's -/
theorem act_row (What id at_ : Int) {x : Tm} {S : List (Int × Int)} (h : Rl x S) : ∃ x' S', Rl x' S' ∧
    ((bif ((IntKind.i64.wrap (Int.tmod (IntKind.u64.wrap What) 3)) == 0) then ((timer_Timers_Set.f x id at_).bind fun r8 => (purserref19_Timers_DocSet.f (S.map fl) id at_).bind fun r9 => bif (r8.2 != r9.2) then (some (.inl (false, r8.1, r9.1))) else (some (.inr (r8.1, r9.1)))) else (((bif ((IntKind.i64.wrap (Int.tmod (IntKind.u64.wrap What) 3)) == 1) then ((timer_Timers_Drop.f x id).bind fun r10 => (purserref19_Timers_DocDrop.f (S.map fl) id).bind fun r11 => bif (r10.2 != r11.2) then (some (.inl (false, r10.1, r11.1))) else (some (.inr (r10.1, r11.1)))) else (((bif ((IntKind.i64.wrap (Int.tmod (IntKind.u64.wrap What) 3)) == 2) then ((timer_Timers_Due.f x at_).bind fun r12 => (purserref19_Timers_DocDue.f (S.map fl) at_).bind fun r13 => (purserref01_Same.f r12.2 r13.2).bind fun r14 => bif (!r14) then (some (.inl (false, r12.1, r13.1))) else (some (.inr (r12.1, r13.1)))) else (some (.inr (x, S.map fl)))) : Option ((Bool × Tm × List (Int × Int)) ⊕ (Tm × List (Int × Int)))).bind fun b17 => (match b17 with | .inl e15 => some (.inl e15) | .inr e16 => some (.inr e16)))) : Option ((Bool × Tm × List (Int × Int)) ⊕ (Tm × List (Int × Int)))).bind fun b20 => (match b20 with | .inl e18 => some (.inl e18) | .inr e19 => some (.inr e19)))) : Option ((Bool × Tm × List (Int × Int)) ⊕ (Tm × List (Int × Int)))) = some (.inr (x', S'.map fl)) := by
  obtain ⟨r, hr, hr0, hr1⟩ := rest_in What 3 (by decide) (by decide)
  rw [hr]
  by_cases h0 : r = 0
  · subst h0
    obtain ⟨x', S', e, h1, h2, h3⟩ := act_set h id at_
    exact ⟨x', S', h3, by rw [h1, h2]; simp⟩
  · rw [show (r == 0) = false by simpa using h0]
    by_cases h1 : r = 1
    · subst h1
      obtain ⟨x', S', e, h1, h2, h3⟩ := act_drop h id
      exact ⟨x', S', h3, by rw [h1, h2]; simp⟩
    · rw [show (r == 1) = false by simpa using h1]
      obtain rfl : r = 2 := by omega
      obtain ⟨x', S', l, h1, h2, h3, h4⟩ := act_due h at_
      exact ⟨x', S', h3, by rw [h1, h2]; simp [same_eq l (by omega)]⟩
/-- what is told of one number -/
theorem tells {x : Tm} {S : List (Int × Int)} (h : Rl x S) (id : Int) : ∃ r32 j, timer_Timers_At.f x id = some (x, r32) ∧ purserref19_Timers_Find.f (S.map fl) id = some (S.map fl, j) ∧
    ((bif decide (j < 0) then (bif !(r32.2 != 7) then (bif !(r32.1 != 0) then (bif decide (j ≥ 0) then (bif !(r32.2 != 0) then (bif (decide (0 ≤ j) && decide (j < ((S.map fl).length : Int))) then (some (r32.1 != (((S.map fl).getD j.toNat (0, 0)).2))) else none) else (some true)) else (some false)) else (some true)) else (some true)) else (bif decide (j ≥ 0) then (bif !(r32.2 != 0) then (bif (decide (0 ≤ j) && decide (j < ((S.map fl).length : Int))) then (some (r32.1 != (((S.map fl).getD j.toNat (0, 0)).2))) else none) else (some true)) else (some false))) : Option Bool) = some false := by
  have hc := h.inv.cap
  rw [h.len] at hc
  rcases at_rl h id with ⟨h1, h2⟩ | ⟨t, h1, h2⟩
  · refine ⟨_, _, h2, find_eq _ _ (by simp; omega), ?_⟩
    unfold place
    rw [place_no h1]
    rfl
  · obtain ⟨k, k1, hk, k2⟩ := place_yes h.srt h1 rfl
    refine ⟨_, _, h2, find_eq _ _ (by simp; omega), ?_⟩
    unfold place
    rw [k1]
    simp only [show decide ((k : Int) < 0) = false by simp, cond_false, show decide ((k : Int) ≥ 0) = true by simp, cond_true, ilt hk, nn, Bool.and_self, Go.Pg.at_ (S.map fl) k hk, k2]
    simp [fl]
theorem TimerActs (a0 : List (Int × Int × Int)) (a1 : Int) (w0 : wfTy (.slice (.pair (.int .i64) (.pair (.int .i64) (.int .i64)))) a0) (w1 : wfTy (.int .i64) a1) : purserlaw19_TimerActs.f a0 a1 = some true := by
  have hn : timer_New.f = some ([], ([], [])) := rfl
  have hin : ∀ (s6 : Int × Tm × List (Int × Int)) {x : Tm} {S : List (Int × Int)} (h : Rl x S), loopO (purserlaw19_TimerActs.l30 a0 a1 s6) (0, x, S.map fl) = some (.inr (x, S.map fl)) := by
    intro s6 x S h
    refine loop_up (fun i => ((i : Int), x, S.map fl)) 2 rfl (fun i hi => ?_) ?_
    · have hst : ∀ e31 : Int, ∃ r32 j, timer_Timers_At.f x e31 = some (x, r32) ∧ purserref19_Timers_Find.f (S.map fl) e31 = some (S.map fl, j) ∧ _ := tells h
      unfold purserlaw19_TimerActs.l30
      have e1 : decide ((i : Int) < 2) = true := by simp; omega
      simp only [e1, cond_true, e3]
      have hid : ∃ e31 : Int, ((bif ((i : Int) == 1) then (some a1) else (some (((a0.getD s6.1.toNat (0, (0, 0))).2).1))) : Option Int) = some e31 := by cases ((i : Int) == 1) <;> exact ⟨_, rfl⟩
      obtain ⟨e31, he⟩ := hid
      rw [he]
      obtain ⟨r32, j, t1, t2, t3⟩ := tells h e31
      simp only [Option.bind_some, t1, t2, t3, cond_false, e3, wrS i (by omega)]
    · rfl
  have hb : ∀ {X Y : Type} (A : Option X) (B : X → Option Y) (z : X), A = some z → A.bind B = B z := fun A B z h => by rw [h]; rfl
  have hloop : ∀ (m i : Nat) (x : Tm) (S : List (Int × Int)), i + m = 60 → Rl x S → ∃ y, loopO (purserlaw19_TimerActs.l6 a0 a1) ((i : Int), x, S.map fl) = some (.inr y) := by
    intro m
    induction m with
    | zero =>
      intro i x S hi h
      obtain rfl : i = 60 := by omega
      have hs : purserlaw19_TimerActs.l6 a0 a1 (((60 : Nat) : Int), x, S.map fl) = some (.inr (.inr (x, S.map fl))) := by
        unfold purserlaw19_TimerActs.l6
        have : decide (((60 : Nat) : Int) < 60) = false := by decide
        simp only [this]
        cases decide (((60 : Nat) : Int) < (a0.length : Int)) <;> rfl
      exact ⟨_, by rw [loopO_eq, hs]; rfl⟩
    | succ m ih =>
      intro i x S hi h
      by_cases hl : i < a0.length
      · obtain ⟨x', S', h1, h2⟩ := act_row ((a0.getD (i : Int).toNat (0, (0, 0))).1) ((a0.getD (i : Int).toNat (0, (0, 0))).2.1) ((a0.getD (i : Int).toNat (0, (0, 0))).2.2) h
        have hs : purserlaw19_TimerActs.l6 a0 a1 ((i : Int), x, S.map fl) = some (.inl (((i + 1 : Nat) : Int), x', S'.map fl)) := by
          unfold purserlaw19_TimerActs.l6
          have e1 : decide ((i : Int) < 60) = true := by simp; omega
          simp only [ilt hl, nn, e1, Bool.and_self, cond_true, Option.bind_some, e3]
          refine (hb _ _ _ h2).trans ?_
          simp only [e3, next_rl h1, len_rl h1, Option.bind_some]
          have hl2 : ((S'.map fl).length : Int) = (S'.length : Int) := by simp
          cases S' with
          | nil =>
            have this : loopO (purserlaw19_TimerActs.l30 a0 a1 ((i : Int), x, S.map fl)) (0, x', []) = some (.inr (x', [])) := hin _ h1
            show ((loopO (purserlaw19_TimerActs.l30 a0 a1 ((i : Int), x, S.map fl)) (0, x', [])).bind fun b37 => _) = _
            rw [this]
            simp only [Option.bind_some, wrS i (by omega)]
            rfl
          | cons p S' =>
            have e5 : decide ((((p :: S').map fl).length : Int) > 0) = true := by first | (simp; done) | (simp; omega)
            have e6 : decide ((0 : Int) < (((p :: S').map fl).length : Int)) = true := by first | (simp; done) | (simp; omega)
            have e5' : decide (((p :: S').length : Int) > 0) = true := by first | (simp; done) | (simp; omega)
            have e6' : decide ((0 : Int) < ((p :: S').length : Int)) = true := by first | (simp; done) | (simp; omega)
            have e7 : (((p :: S').map fl).getD 0 (0, 0)).2 = p.1 := rfl
            have := hin ((i : Int), x, S.map fl) h1
            simp only [nxt, e5, e6, e5', e6', e7, bne_self_eq_false, Bool.not_false, Bool.not_true, cond_true, cond_false, show decide ((0 : Nat) ≤ 0) = true from rfl, Bool.and_self, hl2, Option.bind_some, e3, this, wrS i (by omega)]
        rw [loopO_eq, hs]
        simp only [Option.bind_some]
        exact ih (i + 1) x' S' (by omega) h1
      · have hs : purserlaw19_TimerActs.l6 a0 a1 ((i : Int), x, S.map fl) = some (.inr (.inr (x, S.map fl))) := by
          unfold purserlaw19_TimerActs.l6
          have : decide ((i : Int) < (a0.length : Int)) = false := by simp; omega
          simp only [this]
          rfl
        exact ⟨_, by rw [loopO_eq, hs]; rfl⟩
  obtain ⟨y, hy⟩ := hloop 60 0 ([], ([], [])) [] rfl rl_new
  have hy' : loopO (purserlaw19_TimerActs.l6 a0 a1) (0, ([], ([], [])), []) = some (.inr y) := hy
  have h2 : loopO purserlaw19_TimerActs.l2 [] = some [] := by
    rw [loopO_eq]; rfl
  unfold purserlaw19_TimerActs.f
  rw [hn, timers_eq]
  simp only [Option.bind_some, Bool.not_true, Bool.not_false, cond_true, cond_false, h2, hy']
  rfl
end Go.Proofs.Ytfcgafnmlkiimaa.Pure
