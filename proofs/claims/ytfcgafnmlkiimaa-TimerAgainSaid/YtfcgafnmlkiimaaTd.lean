/- Plain laws of the timers: sorted lists, the examples' row. No statement of its own. -/
import Derived.Test.YtfcgafnmlkiimaaTc
namespace Go.Proofs.Ytfcgafnmlkiimaa.Pure
open Go.Vk Go.Am Go.Pg Go.Hp Go.Proofs.Ytfcgafnmlkiimaa.Y
set_option linter.unusedVariables false
set_option linter.unusedSimpArgs false

theorem same_eq (l : List Int) (hl : l.length ≤ 1099511627776) : purserref01_Same.f l l = some true := by
  have h := loop_up (f := purserref01_Same.l1 l l) (s0 := (0 : Int)) (fun i => (i : Int)) l.length (b := .inr ()) rfl ?_ ?_
  · unfold purserref01_Same.f
    rw [h]
    simp
  · intro i hi
    unfold purserref01_Same.l1
    rw [ilt hi, nn]
    simp only [Bool.and_self, cond_true, bne_self_eq_false, cond_false]
    rw [wrS i (by omega)]
  · unfold purserref01_Same.l1
    rw [ige]
    rfl
theorem due_filter {S : List (Int × Int)} (h : Srt S) (c : Int) : S.takeWhile (fun p => decide (p.1 < c)) = S.filter (fun p => decide (p.1 < c)) ∧ S.dropWhile (fun p => decide (p.1 < c)) = S.filter (fun p => !decide (p.1 < c)) := by
  have hl := h.lt
  clear h
  induction S with
  | nil => simp
  | cons p S ih =>
    rw [List.pairwise_cons] at hl
    by_cases hp : p.1 < c
    · have e : decide (p.1 < c) = true := by simpa using hp
      obtain ⟨h1, h2⟩ := ih hl.2
      simp only [List.takeWhile_cons, List.dropWhile_cons, List.filter_cons, e, if_true, Bool.not_true, h1, h2]
      simp
    · have e : decide (p.1 < c) = false := by simpa using hp
      have hall : ∀ q ∈ S, decide (q.1 < c) = false := fun q hq => by
        have := (ltP_iff p q).1 (hl.1 q hq)
        simp; omega
      have e1 : S.filter (fun p => decide (p.1 < c)) = [] := List.filter_eq_nil_iff.2 fun q hq => by simp [hall q hq]
      have e2 : S.filter (fun p => !decide (p.1 < c)) = S := List.filter_eq_self.2 fun q hq => by simp [hall q hq]
      simp only [List.takeWhile_cons, List.dropWhile_cons, List.filter_cons, e, Bool.not_false, if_true, e1, e2]
      simp
/-- Those that are due, and those that are not. -/
def bel (c : Int) (S : List (Int × Int)) : List (Int × Int) := S.filter fun p => decide (p.1 < c)
def abv (c : Int) (S : List (Int × Int)) : List (Int × Int) := S.filter fun p => !decide (p.1 < c)
theorem abv_srt {S : List (Int × Int)} (h : Srt S) (c : Int) : Srt (abv c S) := ⟨h.lt.filter _, h.ids.sublist ((List.filter_sublist).map _)⟩
theorem due_r {x : Tm} {S : List (Int × Int)} (h : Rl x S) (now : Int) : ∃ x', timer_Timers_Due.f x now = some (x', (bel now S).map (·.2)) ∧ Rl x' (abv now S) := by
  obtain ⟨x', h1, h2⟩ := due_rl h now
  rw [(due_filter h.srt now).1] at h1
  rw [(due_filter h.srt now).2] at h2
  exact ⟨x', h1, h2⟩
theorem bel_abv {S : List (Int × Int)} (h : Srt S) (c : Int) : bel c S ++ abv c S = S := by
  have := List.takeWhile_append_dropWhile (p := fun p : Int × Int => decide (p.1 < c)) (l := S)
  rwa [(due_filter h c).1, (due_filter h c).2] at this
theorem bel_next {S : List (Int × Int)} (h : Srt S) {a b : Int} (hab : a ≤ b) : bel a S ++ bel b (abv a S) = bel b S := by
  have e : bel b S = bel b (bel a S) ++ bel b (abv a S) := by
    have := List.filter_append (p := fun p : Int × Int => decide (p.1 < b)) (bel a S) (abv a S)
    rw [bel_abv h] at this
    exact this
  rw [e]
  congr 1
  exact (List.filter_eq_self.2 fun p hp => by
    have := (List.mem_filter.1 hp).2
    simp at this ⊢; omega).symm
theorem abv_next (S : List (Int × Int)) {a b : Int} (hab : a ≤ b) : abv b (abv a S) = abv b S := by
  unfold abv
  rw [List.filter_filter]
  refine List.filter_congr fun p _ => ?_
  by_cases h1 : p.1 < b
  · simp [h1]
  · have : ¬ p.1 < a := by omega
    simp [h1, this]
theorem mem_ins {p q : Int × Int} {S : List (Int × Int)} : q ∈ ins p S ↔ q = p ∨ q ∈ S := by
  rw [(ins_perm p S).mem_iff, List.mem_cons]
theorem mem_rm {id : Int} {q : Int × Int} {S : List (Int × Int)} : q ∈ rm id S ↔ q ∈ S ∧ q.2 ≠ id := by
  unfold rm
  rw [List.mem_filter]; simp
theorem rm_len {S : List (Int × Int)} (h : Srt S) {p : Int × Int} (hp : p ∈ S) : (rm p.2 S).length + 1 = S.length := by
  have hi := h.ids
  clear h
  induction S with
  | nil => simp at hp
  | cons q S ih =>
    rw [List.map_cons, List.nodup_cons] at hi
    rcases List.mem_cons.1 hp with rfl | hp
    · have : rm p.2 (p :: S) = S := by
        unfold rm
        rw [List.filter_cons_of_neg (by simp), List.filter_eq_self]
        intro r hr
        simp only [bne_iff_ne, ne_eq]
        exact fun e => hi.1 (List.mem_map.2 ⟨r, hr, e⟩)
      rw [this]; rfl
    · have hne : q.2 ≠ p.2 := fun e => hi.1 (List.mem_map.2 ⟨p, hp, e.symm⟩)
      have : rm p.2 (q :: S) = q :: rm p.2 S := by
        unfold rm
        rw [List.filter_cons_of_pos (by simpa using hne)]
      rw [this, List.length_cons, List.length_cons, ih hp hi.2]
theorem rm_none {S : List (Int × Int)} {id : Int} (h : ∀ p ∈ S, p.2 ≠ id) : rm id S = S := by
  unfold rm
  rw [List.filter_eq_self]
  intro p hp
  simpa using h p hp
theorem ins_len (p : Int × Int) (S : List (Int × Int)) : (ins p S).length = S.length + 1 := (ins_perm p S).length_eq
/-- A number's time is set. -/
theorem set_in {x : Tm} {S : List (Int × Int)} (h : Rl x S) (id at_ : Int) (hr : inR id at_ = true) (hc : (∃ p ∈ S, p.2 = id) ∨ S.length < 1024) : ∃ x', timer_Timers_Set.f x id at_ = some (x', 0) ∧ Rl x' (ins (at_, id) (rm id S)) := by
  rcases set_rl h id at_ with ⟨h1, _⟩ | ⟨_, h2, h3, _⟩ | ⟨_, _, h4⟩
  · rw [hr] at h1; cases h1
  · rcases hc with ⟨p, hp, e⟩ | hc
    · exact absurd e (h2 p hp)
    · omega
  · exact h4
theorem e3 (x : Tm) : ((x.1, (x.2.1, x.2.2)) : Tm) = x := rfl
theorem timers_eq : purserlaw19_timers.f = some true := by
  have hn : timer_New.f = some ([], ([], [])) := rfl
  obtain ⟨x1, h1, r1⟩ := set_in rl_new 7 5 rfl (.inr (by decide))
  obtain ⟨x2, h2, r2⟩ := set_in r1 3 5 rfl (.inr (by decide))
  obtain ⟨x3, h3, r3⟩ := set_in r2 1 9 rfl (.inr (by decide))
  obtain ⟨x4, h4, r4⟩ := due_r r3 6
  obtain ⟨x5, h5, r5⟩ := due_r r4 9
  obtain ⟨x6, h6, r6⟩ := due_r r5 10
  have q4 : (bel 6 (ins (9, 1) (rm 1 (ins (5, 3) (rm 3 (ins (5, 7) (rm 7 []))))))).map (·.2) = [3, 7] := by decide
  have q5 : (bel 9 (abv 6 (ins (9, 1) (rm 1 (ins (5, 3) (rm 3 (ins (5, 7) (rm 7 [])))))))).map (·.2) = [] := by decide
  have q6 : (bel 10 (abv 9 (abv 6 (ins (9, 1) (rm 1 (ins (5, 3) (rm 3 (ins (5, 7) (rm 7 []))))))))).map (·.2) = [1] := by decide
  rw [q4] at h4
  rw [q5] at h5
  rw [q6] at h6
  unfold purserlaw19_timers.f
  rw [hn]
  simp only [Option.bind_some, e3, h1, h2, h3, h4, h5, h6, same_eq [3, 7] (by decide), same_eq [1] (by decide)]
  rfl
/-- a number's rest, below a bound -/
theorem rest_in (a m : Int) (hm : 0 < m) (hm2 : m ≤ 9223372036854775807) : ∃ r : Int, IntKind.i64.wrap (Int.tmod (IntKind.u64.wrap a) m) = r ∧ 0 ≤ r ∧ r < m := by
  have h0 : 0 ≤ IntKind.u64.wrap a := wrap_u64_nonneg a
  rw [Int.tmod_eq_emod_of_nonneg h0]
  have h1 := Int.emod_nonneg (IntKind.u64.wrap a) (show m ≠ 0 by omega)
  have h2 := Int.emod_lt_of_pos (IntKind.u64.wrap a) hm
  exact ⟨_, wr _ (by omega) (by omega), h1, h2⟩
end Go.Proofs.Ytfcgafnmlkiimaa.Pure
