/- The plain law of TimerAgain: what the law computes is true, whatever the input. -/
import Derived.Test.YtfcgafnmlkiimaaTd
namespace Go.Proofs.Ytfcgafnmlkiimaa.Pure
open Go.Vk Go.Am Go.Pg Go.Hp Go.Proofs Go.Proofs.Ytfcgafnmlkiimaa.Y
set_option linter.unusedVariables false
set_option linter.unusedSimpArgs false
theorem inR_of2 {id at_ : Int} (h1 : 1 ≤ id) (h2 : id ≤ 100000) (h3 : 0 ≤ at_) (h4 : at_ ≤ 100000) : inR id at_ = true := by
  unfold inR
  simp; omega
/-- The others' times. -/
theorem again_set (a0 : List (Int × Int × Int)) : ∀ (m i : Nat) (x : Tm) (S : List (Int × Int)), i + m = 40 → Rl x S → S.length ≤ i → (∀ p ∈ S, 100 ≤ p.2 ∧ 0 ≤ p.1 ∧ p.1 < 100) → ∃ x' S', loopO (purserlaw19_TimerAgain.l3 a0) ((i : Int), x) = some x' ∧ Rl x' S' ∧ S'.length ≤ 40 ∧ ∀ p ∈ S', 100 ≤ p.2 ∧ 0 ≤ p.1 ∧ p.1 < 100 := by
  intro m
  induction m with
  | zero =>
    intro i x S hi h hl hp
    obtain rfl : i = 40 := by omega
    have hs : purserlaw19_TimerAgain.l3 a0 (((40 : Nat) : Int), x) = some (.inr x) := by
      unfold purserlaw19_TimerAgain.l3
      have : decide (((40 : Nat) : Int) < 40) = false := by decide
      rw [this]
      cases decide (((40 : Nat) : Int) < (a0.length : Int)) <;> rfl
    exact ⟨x, S, by rw [loopO_eq, hs]; rfl, h, hl, hp⟩
  | succ m ih =>
    intro i x S hi h hl hp
    by_cases hla : i < a0.length
    · obtain ⟨q, hq, hq0, hq1⟩ := rest_in ((a0.getD (i : Int).toNat (0, (0, 0))).2.2) 100 (by decide) (by decide)
      have hid : IntKind.i64.wrap (100 + (i : Int)) = 100 + i := wr _ (by omega) (by omega)
      obtain ⟨x', s1, s2⟩ := set_in h (100 + i) q (inR_of2 (by omega) (by omega) hq0 (by omega)) (.inr (by omega))
      have hs : purserlaw19_TimerAgain.l3 a0 ((i : Int), x) = some (.inl (((i + 1 : Nat) : Int), x')) := by
        unfold purserlaw19_TimerAgain.l3
        have e1 : decide ((i : Int) < 40) = true := by simp; omega
        simp only [ilt hla, nn, e1, Bool.and_self, cond_true, Option.bind_some, e3, hq, hid, s1, wrS i (by omega)]
      rw [loopO_eq, hs]
      simp only [Option.bind_some]
      refine ih (i + 1) x' _ (by omega) s2 (by rw [ins_len]; have := List.length_filter_le (fun p : Int × Int => p.2 != (100 + (i : Int))) S; unfold rm; omega) (fun p hpm => ?_)
      rcases mem_ins.1 hpm with rfl | hpm
      · simp only; omega
      · exact hp p (mem_rm.1 hpm).1
    · have hs : purserlaw19_TimerAgain.l3 a0 ((i : Int), x) = some (.inr x) := by
        unfold purserlaw19_TimerAgain.l3
        have : decide ((i : Int) < (a0.length : Int)) = false := by simp; omega
        rw [this]
        rfl
      exact ⟨x, S, by rw [loopO_eq, hs]; rfl, h, by omega, hp⟩
/-- One number's time, again and again: all others' as they were. -/
theorem again_again (a1 : Int) (a2 : List Int) {id : Int} (hid : IntKind.i64.wrap (1 + IntKind.i64.wrap (Int.tmod (IntKind.u64.wrap a1) 50)) = id) (h1 : 1 ≤ id) (h2 : id ≤ 50) : ∀ (m i : Nat) (last : Int) (x : Tm) (S : List (Int × Int)), i + m = 20 → Rl x S → (last, id) ∈ S → (∀ p ∈ S, 0 ≤ p.1 ∧ p.1 < 100) → S.length ≤ 41 →
    ∃ last' x' S', loopO (purserlaw19_TimerAgain.l8 a1 a2) (last, (i : Int), x) = some (.inr (last', x')) ∧ Rl x' S' ∧ (last', id) ∈ S' ∧ (∀ p ∈ S', 0 ≤ p.1 ∧ p.1 < 100) ∧ S'.length ≤ 41 := by
  intro m
  induction m with
  | zero =>
    intro i last x S hi h hm hp hl
    obtain rfl : i = 20 := by omega
    have hs : purserlaw19_TimerAgain.l8 a1 a2 (last, ((20 : Nat) : Int), x) = some (.inr (.inr (last, x))) := by
      unfold purserlaw19_TimerAgain.l8
      have : decide (((20 : Nat) : Int) < 20) = false := by decide
      simp only [this]
      cases decide (((20 : Nat) : Int) < (a2.length : Int)) <;> rfl
    exact ⟨last, x, S, by rw [loopO_eq, hs]; rfl, h, hm, hp, hl⟩
  | succ m ih =>
    intro i last x S hi h hm hp hl
    by_cases hla : i < a2.length
    · obtain ⟨q, hq, hq0, hq1⟩ := rest_in (a2.getD (i : Int).toNat 0) 100 (by decide) (by decide)
      obtain ⟨x', s1, s2⟩ := set_in h id q (inR_of2 h1 (by omega) hq0 (by omega)) (.inl ⟨_, hm, rfl⟩)
      have hs : purserlaw19_TimerAgain.l8 a1 a2 (last, (i : Int), x) = some (.inl (q, ((i + 1 : Nat) : Int), x')) := by
        unfold purserlaw19_TimerAgain.l8
        have e1 : decide ((i : Int) < 20) = true := by simp; omega
        simp only [ilt hla, nn, e1, Bool.and_self, cond_true, Option.bind_some, e3, hq, hid, s1, wrS i (by omega), bne_self_eq_false, cond_false]
      have hlen := rm_len h.srt hm
      rw [loopO_eq, hs]
      simp only [Option.bind_some]
      refine ih (i + 1) q x' _ (by omega) s2 (mem_ins.2 (.inl rfl)) (fun p hpm => ?_) (by rw [ins_len]; simp only at hlen; omega)
      rcases mem_ins.1 hpm with rfl | hpm
      · exact ⟨hq0, hq1⟩
      · exact hp p (mem_rm.1 hpm).1
    · have hs : purserlaw19_TimerAgain.l8 a1 a2 (last, (i : Int), x) = some (.inr (.inr (last, x))) := by
        unfold purserlaw19_TimerAgain.l8
        have : decide ((i : Int) < (a2.length : Int)) = false := by simp; omega
        simp only [this]
        rfl
      exact ⟨last, x, S, by rw [loopO_eq, hs]; rfl, h, hm, hp, hl⟩
/-- How often a number stands in a row. -/
def cnt (id : Int) (l : List Int) : Nat := (l.filter (· == id)).length
theorem cnt_loop (a1 : Int) {id last now : Int} (hid : IntKind.i64.wrap (1 + IntKind.i64.wrap (Int.tmod (IntKind.u64.wrap a1) 50)) = id) (e12 : Int × Tm) (s14 : Int × Int × Tm) (r15 : Tm × List Int) (h12 : e12.1 = last) (h14 : s14.2.1 = now) (hl0 : 0 ≤ last ∧ last < 100) (hlen : r15.2.length ≤ 1024) (hok : id ∈ r15.2 → now = last + 1) :
    ∀ (m i : Nat) (n : Nat), i + m = r15.2.length → n + m ≤ 5000 → loopO (purserlaw19_TimerAgain.l16 a1 e12 s14 r15) ((n : Int), (i : Int)) = some (.inr (((n + cnt id (r15.2.drop i) : Nat)) : Int)) := by
  intro m
  induction m with
  | zero =>
    intro i n hi hn
    obtain rfl : i = r15.2.length := by omega
    have hs : purserlaw19_TimerAgain.l16 a1 e12 s14 r15 ((n : Int), (r15.2.length : Int)) = some (.inr (.inr (n : Int))) := by
      unfold purserlaw19_TimerAgain.l16
      simp only [ige]
      rfl
    rw [loopO_eq, hs]
    simp [cnt]
  | succ m ih =>
    intro i n hi hn
    have hl : i < r15.2.length := by omega
    have hw : IntKind.i64.wrap (last + 1) = last + 1 := wr _ (by omega) (by omega)
    rw [List.drop_eq_getElem_cons hl]
    by_cases he : r15.2[i] = id
    · have hnow := hok (by rw [← he]; exact List.getElem_mem hl)
      have hs : purserlaw19_TimerAgain.l16 a1 e12 s14 r15 ((n : Int), (i : Int)) = some (.inl (((n + 1 : Nat) : Int), ((i + 1 : Nat) : Int))) := by
        unfold purserlaw19_TimerAgain.l16
        have e1 : (id == id) = true := by simp
        have e2 : (now != last + 1) = false := by simp [hnow]
        simp only [ilt hl, nn, Bool.and_self, cond_true, at_ r15.2 i hl, he, hid, e1, h12, h14, hw, e2, cond_false, Option.bind_some, wrS n (by omega), wrS i (by omega)]
      rw [loopO_eq, hs]
      simp only [Option.bind_some]
      rw [ih (i + 1) (n + 1) (by omega) (by omega)]
      unfold cnt
      rw [List.filter_cons_of_pos (by simpa using he), List.length_cons]
      congr 3
      omega
    · have hs : purserlaw19_TimerAgain.l16 a1 e12 s14 r15 ((n : Int), (i : Int)) = some (.inl ((n : Int), ((i + 1 : Nat) : Int))) := by
        unfold purserlaw19_TimerAgain.l16
        have e1 : (r15.2[i] == id) = false := by simpa using he
        simp only [ilt hl, nn, Bool.and_self, cond_true, at_ r15.2 i hl, hid, e1, cond_false, Option.bind_some, wrS i (by omega)]
      rw [loopO_eq, hs]
      simp only [Option.bind_some]
      rw [ih (i + 1) n (by omega) (by omega)]
      unfold cnt
      rw [List.filter_cons_of_neg (by simpa using he)]
theorem cnt_nodup {id : Int} : ∀ {l : List Int}, l.Nodup → cnt id l = if id ∈ l then 1 else 0
  | [], _ => rfl
  | a :: l, h => by
    rw [List.nodup_cons] at h
    have ih := cnt_nodup (id := id) h.2
    unfold cnt at ih ⊢
    by_cases e : a = id
    · subst e
      rw [List.filter_cons_of_pos (by simp), List.length_cons, ih, if_neg h.1, if_pos (List.mem_cons_self ..)]
    · rw [List.filter_cons_of_neg (by simpa using e), ih]
      have e' : ¬ id = a := fun h => e h.symm
      simp [e']
theorem again_due (a1 : Int) {id last : Int} (hid : IntKind.i64.wrap (1 + IntKind.i64.wrap (Int.tmod (IntKind.u64.wrap a1) 50)) = id) (e12 : Int × Tm) (h12 : e12.1 = last) (hl0 : 0 ≤ last ∧ last < 100) {S : List (Int × Int)} (hS : Srt S) (hm : (last, id) ∈ S) (hp : ∀ p ∈ S, 0 ≤ p.1 ∧ p.1 < 100) (hlen : S.length ≤ 41) :
    ∀ (m k : Nat) (x : Tm), k + m = 102 → Rl x (abv ((k : Int) - 1) S) → ∃ x', loopO (purserlaw19_TimerAgain.l14 a1 e12) (((if last < (k : Int) - 1 then 1 else 0 : Nat) : Int), (k : Int), x) = some (.inr (1, x')) ∧ Rl x' [] := by
  intro m
  induction m with
  | zero =>
    intro k x hk h
    obtain rfl : k = 102 := by omega
    have ha : abv (((102 : Nat) : Int) - 1) S = [] := List.filter_eq_nil_iff.2 fun p hpm => by have := hp p hpm; simp; omega
    rw [ha] at h
    have e : (last < ((102 : Nat) : Int) - 1) := by omega
    rw [if_pos e]
    have hs : purserlaw19_TimerAgain.l14 a1 e12 (((1 : Nat) : Int), ((102 : Nat) : Int), x) = some (.inr (.inr (1, x))) := rfl
    exact ⟨x, by rw [loopO_eq, hs]; rfl, h⟩
  | succ m ih =>
    intro k x hk h
    obtain ⟨x', d1, d2⟩ := due_r h (k : Int)
    rw [abv_next S (by omega : (k : Int) - 1 ≤ k)] at d2
    have hnd : ((bel (k : Int) (abv ((k : Int) - 1) S)).map (·.2)).Nodup := h.srt.ids.sublist ((List.filter_sublist).map _)
    have hmem : id ∈ (bel (k : Int) (abv ((k : Int) - 1) S)).map (·.2) ↔ (k : Int) = last + 1 := by
      constructor
      · intro hi
        obtain ⟨p, hp1, hp2⟩ := List.mem_map.1 hi
        have hp3 := List.mem_filter.1 hp1
        have hp4 := List.mem_filter.1 hp3.1
        have : p = (last, id) := by
          have h1 := hS.ids
          have h2 : ∀ {l : List (Int × Int)}, (l.map (·.2)).Nodup → ∀ a ∈ l, ∀ b ∈ l, a.2 = b.2 → a = b := by
            intro l
            induction l with
            | nil => intro _ a ha; simp at ha
            | cons y l ih =>
              intro hn a ha b hb e
              rw [List.map_cons, List.nodup_cons] at hn
              rcases List.mem_cons.1 ha with ha1 | ha1 <;> rcases List.mem_cons.1 hb with hb1 | hb1
              · rw [ha1, hb1]
              · exact absurd (List.mem_map.2 ⟨b, hb1, by rw [← e, ha1]⟩) hn.1
              · exact absurd (List.mem_map.2 ⟨a, ha1, by rw [e, hb1]⟩) hn.1
              · exact ih hn.2 a ha1 b hb1 e
          exact h2 h1 p hp4.1 _ hm hp2
        rw [this] at hp3 hp4
        have q1 := hp3.2
        have q2 := hp4.2
        simp at q1 q2
        omega
      · intro e
        refine List.mem_map.2 ⟨(last, id), List.mem_filter.2 ⟨List.mem_filter.2 ⟨hm, ?_⟩, ?_⟩, rfl⟩
        · simp; omega
        · simp; omega
    have hlb : ((bel (k : Int) (abv ((k : Int) - 1) S)).map (·.2)).length ≤ 1024 := by
      rw [List.length_map]; exact Nat.le_trans (List.length_filter_le _ _) (Nat.le_trans (List.length_filter_le _ _) (by omega))
    have hcl := cnt_loop a1 hid e12 (((if last < (k : Int) - 1 then 1 else 0 : Nat) : Int), (k : Int), x) (x', (bel (k : Int) (abv ((k : Int) - 1) S)).map (·.2)) h12 rfl hl0 hlb (fun h => hmem.1 h) _ 0 (if last < (k : Int) - 1 then 1 else 0) (Nat.zero_add _) (by split <;> simp only at hlb ⊢ <;> omega)
    simp only [List.drop_zero] at hcl
    rw [cnt_nodup hnd] at hcl
    have hcount : ((if last < (k : Int) - 1 then 1 else 0) + (if id ∈ (bel (k : Int) (abv ((k : Int) - 1) S)).map (·.2) then 1 else 0) : Nat) = if last < ((k + 1 : Nat) : Int) - 1 then 1 else 0 := by
      simp only [hmem]
      by_cases h1 : last < (k : Int) - 1
      · rw [if_pos h1, if_neg (by omega), if_pos (by omega)]
      · by_cases h2 : (k : Int) = last + 1
        · rw [if_neg h1, if_pos h2, if_pos (by omega)]
        · rw [if_neg h1, if_neg h2, if_neg (by omega)]
    rw [hcount] at hcl
    have hs : purserlaw19_TimerAgain.l14 a1 e12 (((if last < (k : Int) - 1 then 1 else 0 : Nat) : Int), (k : Int), x) = some (.inl (((if last < ((k + 1 : Nat) : Int) - 1 then 1 else 0 : Nat) : Int), ((k + 1 : Nat) : Int), x')) := by
      have e1 : decide ((k : Int) ≤ 101) = true := by simp; omega
      have hcl' := hcl
      unfold purserlaw19_TimerAgain.l14
      simp only [e1, cond_true, e3, d1, Option.bind_some]
      rw [show ((0 : Int)) = ((0 : Nat) : Int) from rfl, hcl']
      simp only [Option.bind_some, wrS k (by omega)]
    rw [loopO_eq, hs]
    simp only [Option.bind_some]
    exact ih (k + 1) x' (by omega) (by rw [show ((k + 1 : Nat) : Int) - 1 = (k : Int) by omega]; exact d2)
theorem TimerAgain (a0 : List (Int × Int × Int)) (a1 : Int) (a2 : List Int) (w0 : wfTy (.slice (.pair (.int .i64) (.pair (.int .i64) (.int .i64)))) a0) (w1 : wfTy (.int .i64) a1) (w2 : wfTy (.slice (.int .i64)) a2) : purserlaw19_TimerAgain.f a0 a1 a2 = some true := by
  have hn : timer_New.f = some ([], ([], [])) := rfl
  obtain ⟨r, hr, hr0, hr1⟩ := rest_in a1 50 (by decide) (by decide)
  have hid : IntKind.i64.wrap (1 + IntKind.i64.wrap (Int.tmod (IntKind.u64.wrap a1) 50)) = 1 + r := by rw [hr, wr _ (by omega) (by omega)]
  obtain ⟨x1, S1, f1, f2, f3, f4⟩ := again_set a0 40 0 ([], ([], [])) [] rfl rl_new (by simp) (fun p h => by simp at h)
  have f1' : loopO (purserlaw19_TimerAgain.l3 a0) (0, ([], ([], []))) = some x1 := f1
  obtain ⟨x2, g1, g2⟩ := set_in f2 (1 + r) 5 (inR_of2 (by omega) (by omega) (by omega) (by omega)) (.inr (by omega))
  rw [rm_none (fun p hp => by have := f4 p hp; omega)] at g2
  obtain ⟨last, x3, S3, k1, k2, k3, k4, k5⟩ := again_again a1 a2 hid (by omega) (by omega) 20 0 5 x2 _ rfl g2 (mem_ins.2 (.inl rfl)) (fun p hp => by
    rcases mem_ins.1 hp with rfl | hp
    · simp only; omega
    · have := f4 p hp; omega) (by rw [ins_len]; omega)
  have k1' : loopO (purserlaw19_TimerAgain.l8 a1 a2) (5, 0, x2) = some (.inr (last, x3)) := k1
  have hl0 := k4 _ k3
  simp only at hl0
  have ha0 : abv ((0 : Nat) - 1 : Int) S3 = S3 := List.filter_eq_self.2 fun p hp => by have := k4 p hp; simp; omega
  obtain ⟨x4, m1, m2⟩ := again_due a1 hid (last, x3) rfl hl0 k2.srt k3 k4 k5 102 0 x3 rfl (by rw [show (((0 : Nat) : Int) - 1) = ((0 : Nat) - 1 : Int) from rfl, ha0]; exact k2)
  rw [if_neg (by omega)] at m1
  have m1' : loopO (purserlaw19_TimerAgain.l14 a1 (last, x3)) (0, 0, x3) = some (.inr (1, x4)) := m1
  have hl := len_rl m2
  unfold purserlaw19_TimerAgain.f
  rw [hn, timers_eq]
  simp only [Option.bind_some, Bool.not_true, cond_false, f1', hid, e3, g1, bne_self_eq_false, k1', m1', hl, beq_self_eq_true, cond_true]
  rfl
end Go.Proofs.Ytfcgafnmlkiimaa.Pure
