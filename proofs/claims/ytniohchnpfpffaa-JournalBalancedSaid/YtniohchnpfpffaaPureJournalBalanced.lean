/- The law JournalBalanced, in plain Lean. No statement of its own. -/
import Derived.Test.YtniohchnpfpffaaJe
namespace Go.Proofs.Ytniohchnpfpffaa.Pure
open Go.Vk Go.Am Go.Pg Go.Sort Go.Proofs.Ytniohchnpfpffaa.Y
set_option linter.unusedVariables false
set_option linter.unusedSimpArgs false

abbrev Jobs := List (Int × Int × Int × List Int × Int × Int × List (Int × Int × Int × Int))
theorem round (a0 : Jobs) (i p : Nat) (j : Jn) (hi : i < min a0.length 60) (h : Inv i p j) :
    ∃ p' j', Inv (i + 1) p' j' ∧ purserlaw08_JournalBalanced.l3 a0 ((i : Int), (), j.1, j.2.1, j.2.2.1, j.2.2.2) = some (.inl (((i + 1 : Nat) : Int), (), j'.1, j'.2.1, j'.2.2.1, j'.2.2.2)) := by
  have h1 : i < a0.length := by omega
  have h2 : decide ((i : Int) < 60) = true := by simp; omega
  unfold purserlaw08_JournalBalanced.l3
  simp only
  rw [ilt h1, cond_true, Option.bind_some, h2, cond_true, nn, Bool.and_self, cond_true, wrS i (by omega)]
  rw [show (j.1, j.2.1, j.2.2.1, j.2.2.2) = j from rfl]
  cases IntKind.i64.wrap (Int.tmod (IntKind.u64.wrap (a0.getD (i : Int).toNat (0, (0, (0, ([], (0, (0, []))))))).1) 3) == 2 with
  | true =>
    obtain ⟨r, p', h3, h4⟩ := inv_close h
    refine ⟨p', r.1, h4.le (by omega), ?_⟩
    rw [cond_true, h3]
    rfl
  | false =>
    obtain ⟨e, h3, h4⟩ := job_eq (a0.getD (i : Int).toNat (0, (0, (0, ([], (0, (0, [])))))))
    obtain ⟨r, h5, h6⟩ := inv_post h (by omega) e.1 h4
    refine ⟨p, r.1, h6, ?_⟩
    rw [cond_false, cond_true]
    have h3' : purserlaw08_Job_entry.f ((a0.getD (i : Int).toNat (0, (0, (0, ([], (0, (0, []))))))).1, (((a0.getD (i : Int).toNat (0, (0, (0, ([], (0, (0, []))))))).2).1, ((((a0.getD (i : Int).toNat (0, (0, (0, ([], (0, (0, []))))))).2).2).1, (((((a0.getD (i : Int).toNat (0, (0, (0, ([], (0, (0, []))))))).2).2).2).1, ((((((a0.getD (i : Int).toNat (0, (0, (0, ([], (0, (0, []))))))).2).2).2).2).1, (((((((a0.getD (i : Int).toNat (0, (0, (0, ([], (0, (0, []))))))).2).2).2).2).2).1, ((((((a0.getD (i : Int).toNat (0, (0, (0, ([], (0, (0, []))))))).2).2).2).2).2).2)))))) = some e := h3
    rw [h3', Option.bind_some]
    have h5' : journal_Journal_Post.f j (e.1.1, e.1.2) = some r := h5
    rw [h5']
    rfl
theorem rounds (a0 : Jobs) : ∀ (n i p : Nat) (j : Jn), i + n = min a0.length 60 → Inv i p j →
    ∃ p' j', Inv 60 p' j' ∧ loopO (purserlaw08_JournalBalanced.l3 a0) ((i : Int), (), j.1, j.2.1, j.2.2.1, j.2.2.2) = some ((), j'.1, j'.2.1, j'.2.2.1, j'.2.2.2)
  | 0, i, p, j, hi, h => by
    refine ⟨p, j, h.le (by omega), ?_⟩
    rw [loopO_eq]
    have : purserlaw08_JournalBalanced.l3 a0 ((i : Int), (), j.1, j.2.1, j.2.2.1, j.2.2.2) = some (.inr ((), j.1, j.2.1, j.2.2.1, j.2.2.2)) := by
      unfold purserlaw08_JournalBalanced.l3
      simp only
      rw [andB]
      have : (decide ((i : Int) < (a0.length : Int)) && decide ((i : Int) < 60)) = false := by
        by_cases h : i < a0.length
        · have : ¬ (i : Int) < 60 := by omega
          simp [this]
        · have : ¬ (i : Int) < (a0.length : Int) := by omega
          simp [this]
      rw [this]
      rfl
    rw [this]
    rfl
  | n + 1, i, p, j, hi, h => by
    obtain ⟨p1, j1, k1, k2⟩ := round a0 i p j (by omega) h
    obtain ⟨p2, j2, k3, k4⟩ := rounds a0 n (i + 1) p1 j1 (by omega) k1
    refine ⟨p2, j2, k3, ?_⟩
    rw [loopO_eq, k2]
    exact k4
theorem leg_in {k : Int} {l : List Leg} (h : chk k l = 0) : l.length ≤ 100 ∧ ∀ x ∈ l, -9007199254740992 ≤ x.2 ∧ x.2 ≤ 9007199254740992 := by
  obtain ⟨h1, h2, _, _⟩ := chk_ok h
  exact ⟨by omega, h2⟩
theorem trials {p : Nat} {j : Jn} (h : Inv 60 p j) : loopO purserlaw08_JournalBalanced.l10 (-1, (), j.1, j.2.1, j.2.2.1, j.2.2.2) = some (.inr ((), j.1, j.2.1, j.2.2.1, j.2.2.2)) := by
  have hp := h.per
  have h31 := h.p31
  refine loop_up (fun i => ((i : Int) - 1, (), j.1, j.2.1, j.2.2.1, j.2.2.2)) (p + 2) rfl (fun i hi => ?_) ?_
  · unfold purserlaw08_JournalBalanced.l10
    simp only
    rw [show (j.1, j.2.1, j.2.2.1, j.2.2.2) = j from rfl, period_eq, Option.bind_some]
    simp only
    rw [show (j.1, j.2.1, j.2.2.1, j.2.2.2) = j from rfl]
    have e1 : decide ((i : Int) - 1 ≤ j.2.1) = true := by rw [hp]; simp; omega
    have hs : sumL ((sel ((i : Int) - 1) j.1).map debV) = sumL ((sel ((i : Int) - 1) j.1).map creV) := by
      have h1 := sel_amt ((i : Int) - 1) j.1 h.ent
      have h2 := deb_cre (sel ((i : Int) - 1) j.1) fun l hl => by
        unfold sel at hl
        obtain ⟨x, x1, x2⟩ := List.mem_flatMap.1 hl
        exact (leg_in (h.ent x (List.mem_filter.1 x1).1)).2 l x2
      omega
    obtain ⟨a, e, t1, t2⟩ := trial_eq j ((i : Int) - 1) (by omega) (by omega) (by have := h.list; omega) (fun x hx => (leg_in (h.ent x hx)).1) (fun x hx => (leg_in (h.ent x hx)).2) hs
    rw [e1, cond_true, t1, Option.bind_some]
    have e2 : IntKind.i64.wrap ((i : Int) - 1 + 1) = ((i + 1 : Nat) : Int) - 1 := by rw [wr _ (by omega) (by omega)]; omega
    simp only
    rw [e2]
    have e3 : (a != a) = false := by simp
    rw [e3]
    rcases t2 with rfl | rfl <;> rfl
  · unfold purserlaw08_JournalBalanced.l10
    simp only
    rw [show (j.1, j.2.1, j.2.2.1, j.2.2.2) = j from rfl, period_eq, Option.bind_some]
    have e1 : decide (((p + 2 : Nat) : Int) - 1 ≤ j.2.1) = false := by rw [hp]; simp; omega
    simp only
    rw [e1]
    rfl
theorem wrap_add (x y : Int) : IntKind.i64.wrap (IntKind.i64.wrap x + y) = IntKind.i64.wrap (x + y) := by
  rw [IntKind.wrap_i64, IntKind.wrap_i64, IntKind.wrap_i64]; omega
theorem moves {p : Nat} {j : Jn} (h : Inv 60 p j) (ks : List Acc) (i : Nat) (hi : i < ks.length) (al : Int) :
    loopO (purserlaw08_JournalBalanced.l19 (j, ks) (al, (i : Int), (), j.1, j.2.1, j.2.2.1, j.2.2.2)) (0, 0, (), j.1, j.2.1, j.2.2.1, j.2.2.2) = some (bal j.2.2.1 ks[i], (), j.1, j.2.1, j.2.2.1, j.2.2.2) := by
  have hp := h.per
  have h31 := h.p31
  have hm := h.mov
  refine loop_up (fun q => (IntKind.i64.wrap (sumL ((j.2.2.2.take q).map (fun b => bal b ks[i]))), (q : Int), (), j.1, j.2.1, j.2.2.1, j.2.2.2)) (p + 1) rfl (fun q hq => ?_) ?_
  · unfold purserlaw08_JournalBalanced.l19
    simp only
    rw [show (j.1, j.2.1, j.2.2.1, j.2.2.2) = j from rfl, period_eq, Option.bind_some]
    simp only
    rw [show (j.1, j.2.1, j.2.2.1, j.2.2.2) = j from rfl, nn, ilt hi, Bool.and_self, cond_true, at_ ks i hi]
    have e1 : decide ((q : Int) ≤ j.2.1) = true := by rw [hp]; simp; omega
    have hq' : q < j.2.2.2.length := by omega
    rw [e1, cond_true, show (ks[i].1, (ks[i].2).1, (ks[i].2).2) = ks[i] from rfl, moved_eq j ks[i] q hq', Option.bind_some]
    simp only
    rw [wrS q (by omega), wrap_add, take_succ _ _ hq', List.map_append, sumL_app]
    simp [sumL]
  · unfold purserlaw08_JournalBalanced.l19
    simp only
    rw [show (j.1, j.2.1, j.2.2.1, j.2.2.2) = j from rfl, period_eq, Option.bind_some]
    have e1 : decide (((p + 1 : Nat) : Int) ≤ j.2.1) = false := by rw [hp]; simp; omega
    simp only
    rw [e1, cond_false, List.take_of_length_le (by omega), h.sum]
    have := h.balB ks[i]
    rw [wr _ (by omega) (by omega)]
theorem all_zero {p : Nat} {j : Jn} (h : Inv 60 p j) (ks : List Acc) (hk : ks.Perm (keysB j.2.2.1)) (hl : ks.length ≤ 1000000) :
    loopO (purserlaw08_JournalBalanced.l18 (j, ks)) (0, 0, (), j.1, j.2.1, j.2.2.1, j.2.2.2) = some (.inr (0, (), j.1, j.2.1, j.2.2.1, j.2.2.2)) := by
  refine loop_up (fun i => (IntKind.i64.wrap (sumL ((ks.take i).map (bal j.2.2.1))), (i : Int), (), j.1, j.2.1, j.2.2.1, j.2.2.2)) ks.length rfl (fun i hi => ?_) ?_
  · unfold purserlaw08_JournalBalanced.l18
    simp only
    rw [ilt hi, cond_true, moves h ks i hi, Option.bind_some]
    simp only
    rw [show (j.1, j.2.1, j.2.2.1, j.2.2.2) = j from rfl, nn, Bool.and_self, cond_true, at_ ks i hi, show (ks[i].1, (ks[i].2).1, (ks[i].2).2) = ks[i] from rfl, balance_eq, Option.bind_some]
    have e3 : (bal j.2.2.1 ks[i] != bal j.2.2.1 ks[i]) = false := by simp
    simp only
    rw [e3, cond_false, wrS i (by omega), wrap_add, take_succ _ _ hi, List.map_append, sumL_app]
    simp [sumL]
  · unfold purserlaw08_JournalBalanced.l18
    simp only
    rw [ige, cond_false, List.take_length, sumL_perm (hk.map _), keys_sum _ h.nod, h.tot]
    rfl
theorem JournalBalanced (a0 : List (Int × Int × Int × List Int × Int × Int × List (Int × Int × Int × Int)))
    (w0 : wfTy (.slice (.pair (.int .i64) (.pair (.int .i64) (.pair (.int .i64) (.pair (.slice (.int .i64)) (.pair (.int .i64) (.pair (.int .i64) (.slice (.pair (.int .i64) (.pair (.int .i64) (.pair (.int .i64) (.int .i64)))))))))))) a0) : purserlaw08_JournalBalanced.f a0 = some true := by
  unfold purserlaw08_JournalBalanced.f
  rw [new_eq, Option.bind_some, journals_eq, Option.bind_some]
  obtain ⟨p, j, h, hr⟩ := rounds a0 (min a0.length 60) 0 0 ([], (0, ([], [[]]))) (by omega) inv_new
  simp only [Bool.not_true, cond_false]
  have hr' : loopO (purserlaw08_JournalBalanced.l3 a0) (0, (), [], 0, [], [[]]) = some ((), j.1, j.2.1, j.2.2.1, j.2.2.2) := hr
  rw [hr', Option.bind_some]
  simp only
  rw [trials h, Option.bind_some]
  simp only
  have hlen := h.len
  have hB : j.2.2.1.length ≤ 1000000 := by omega
  obtain ⟨ks, k1, k2⟩ := accounts_eq j hB
  rw [show (j.1, j.2.1, j.2.2.1, j.2.2.2) = j from rfl, k2, Option.bind_some]
  have hkl := keys_len j.2.2.1
  rw [all_zero h ks k1 (by rw [k1.length_eq]; omega)]
  rfl
end Go.Proofs.Ytniohchnpfpffaa.Pure
