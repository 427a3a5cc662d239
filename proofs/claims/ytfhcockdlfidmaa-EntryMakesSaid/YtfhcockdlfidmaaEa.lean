/- Plain laws of entries: what the program's functions compute. No statement of its own. -/
import Derived.Test.YtfhcockdlfidmaaE1d
import Derived.Test.YtfhcockdlfidmaaPg
namespace Go.Proofs.Ytfhcockdlfidmaa.Pure
open Go.Vk Go.Am Go.Pg Go.Sort Go.Proofs.Ytfhcockdlfidmaa.Y
set_option linter.unusedVariables false
set_option linter.unusedSimpArgs false

abbrev Acc := Int × Int × Int
abbrev Leg := Acc × Int
abbrev RLeg := Int × Int × Int × Int
def toL (l : RLeg) : Leg := ((l.1, l.2.1, l.2.2.1), l.2.2.2)
def frL (l : Leg) : RLeg := (l.1.1, l.1.2.1, l.1.2.2, l.2)
theorem frto (l : RLeg) : frL (toL l) = l := rfl
theorem tofr (l : Leg) : toL (frL l) = l := rfl
def neg (x : Int) : Int := IntKind.i64.wrap (0 - x)
def opL (l : Leg) : Leg := (l.1, neg l.2)

theorem tame_eq (k : Int) (l : List RLeg) (hl : l.length ≤ 9223372036854775807) : purserlaw07_tame.f (k, l) = some (k, l.take 70) := by
  unfold purserlaw07_tame.f
  by_cases h : (70 : Int) < (l.length : Int)
  · have h1 : (decide ((0 : Int) ≤ 0) && (decide ((0 : Int) ≤ 70) && decide ((70 : Int) ≤ (l.length : Int)))) = true := by simp; omega
    simp only [h, if_true, h1, cond_true]
    have h2 : ([] : List RLeg).length + ((l.take (70 : Int).toNat).drop (0 : Int).toNat).length ≤ 1099511627776 := by simp; omega
    rw [decide_eq_true h2]
    simp
  · have h1 : (decide ((0 : Int) ≤ 0) && (decide ((0 : Int) ≤ (l.length : Int)) && decide ((l.length : Int) ≤ (l.length : Int)))) = true := by simp
    simp only [h, if_false, h1, cond_true]
    have h2 : ([] : List RLeg).length + ((l.take ((l.length : Int)).toNat).drop (0 : Int).toNat).length ≤ 1099511627776 := by simp; omega
    rw [decide_eq_true h2]
    simp only [cond_true, List.nil_append, Option.some.injEq, Prod.mk.injEq, true_and]
    rw [List.take_of_length_le (by simp), List.take_of_length_le (by omega)]
    rfl

theorem to_eq (k : Int) (l : List RLeg) (hl : l.length ≤ 70) : purserlaw07_to.f (k, l) = some (k, l.map toL) := by
  have h := loop_up (f := purserlaw07_to.l1 (k, l)) (s0 := (0, (), k, [])) (fun i => ((i : Int), (), k, (l.take i).map toL)) l.length (b := ((), k, l.map toL)) rfl ?_ ?_
  · unfold purserlaw07_to.f
    dsimp only
    rw [h]; rfl
  · intro i hi
    have h70 : decide ((i : Int) < 70) = true := by simp; omega
    have hlen : ((l.take i).map toL).length + 1 ≤ 1099511627776 := by simp; omega
    simp only [purserlaw07_to.l1, ilt hi, nn, at_ l i hi, cond_true, Bool.and_self, Option.bind_some, h70, wrS i (by omega), take_succ l i hi, List.map_append, List.length_singleton, decide_eq_true hlen, List.map_cons, List.map_nil]
    rfl
  · simp only [purserlaw07_to.l1, ige, cond_false, Option.bind_some, List.take_length]

theorem op_eq (k : Int) (l : List Leg) (hl : l.length ≤ 70) : entry_Opposite.f (k, l) = some (k, l.map opL) := by
  have h := loop_up (f := entry_Opposite.l1 (k, l)) (s0 := (0, (), k, [])) (fun i => ((i : Int), (), k, (l.take i).map opL)) l.length (b := ((), k, l.map opL)) rfl ?_ ?_
  · unfold entry_Opposite.f
    dsimp only
    rw [h]; rfl
  · intro i hi
    have hlen : ((l.take i).map opL).length + 1 ≤ 1099511627776 := by simp; omega
    simp only [entry_Opposite.l1, ilt hi, nn, at_ l i hi, cond_true, Bool.and_self, Option.bind_some, wrS i (by omega), take_succ l i hi, List.map_append, List.length_singleton, decide_eq_true hlen, List.map_cons, List.map_nil]
    rfl
  · simp only [entry_Opposite.l1, ige, cond_false, Option.bind_some, List.take_length]

theorem from_eq (k : Int) (l : List Leg) (hl : l.length ≤ 70) : purserlaw07_from.f (k, l) = some (k, l.map frL) := by
  have h := loop_up (f := purserlaw07_from.l1 (k, l)) (s0 := (0, (), k, [])) (fun i => ((i : Int), (), k, (l.take i).map frL)) l.length (b := ((), k, l.map frL)) rfl ?_ ?_
  · unfold purserlaw07_from.f
    dsimp only
    rw [h]; rfl
  · intro i hi
    have hlen : ((l.take i).map frL).length + 1 ≤ 1099511627776 := by simp; omega
    simp only [purserlaw07_from.l1, ilt hi, nn, at_ l i hi, cond_true, Bool.and_self, Option.bind_some, wrS i (by omega), take_succ l i hi, List.map_append, List.length_singleton, decide_eq_true hlen, List.map_cons, List.map_nil]
    rfl
  · simp only [purserlaw07_from.l1, ige, cond_false, Option.bind_some, List.take_length]

theorem same_refl (e : Int × List RLeg) (hl : e.2.length ≤ 1099511627776) : purserref07_Same.f e e = some true := by
  have h := loop_up (f := purserref07_Same.l2 e e) (s0 := 0) (fun i => (i : Int)) e.2.length (b := .inr ()) rfl ?_ ?_
  · unfold purserref07_Same.f
    rw [h]
    simp
  · intro i hi
    simp only [purserref07_Same.l2, ilt hi, nn, cond_true, Bool.and_self, wrS i (by omega), beq_self_eq_true, Bool.not_true, cond_false]
  · simp only [purserref07_Same.l2, ige, cond_false]

def cmpI (a b : Int) : Int := if a < b then -1 else if a > b then 1 else 0
theorem nan_eq (a : Int) : cmp_isNaN_int.f a = some false := by simp [cmp_isNaN_int.f]
theorem compare_eq (a b : Int) : cmp_Compare_int.f a b = some (cmpI a b) := by
  unfold cmp_Compare_int.f cmpI
  simp only [nan_eq, Option.bind_some, cond_false, bt]
  split
  · rfl
  · split <;> rfl
theorem or_eq (a b c : Int) : cmp_Or_int.f [a, b, c] = some (if a ≠ 0 then a else if b ≠ 0 then b else c) := by
  unfold cmp_Or_int.f
  by_cases ha : a = 0
  · by_cases hb : b = 0
    · by_cases hc : c = 0
      · subst ha hb hc
        rw [loop_up (f := cmp_Or_int.l1 [0, 0, 0]) (s0 := 0) (fun i => (i : Int)) 3 (b := .inr ()) rfl (by decide) (by decide)]
        rfl
      · subst ha hb
        have hc' : (c != 0) = true := by simp [hc]
        rw [loop_up (f := cmp_Or_int.l1 [0, 0, c]) (s0 := 0) (fun i => (i : Int)) 2 (b := .inl c) rfl (by
          intro i hi
          rcases i with _ | _ | i
          · rfl
          · rfl
          · omega) (by simp [cmp_Or_int.l1, hc'])]
        simp
    · subst ha
      have hb' : (b != 0) = true := by simp [hb]
      rw [loop_up (f := cmp_Or_int.l1 [0, b, c]) (s0 := 0) (fun i => (i : Int)) 1 (b := .inl b) rfl (by
          intro i hi
          rcases i with _ | i
          · rfl
          · omega) (by simp [cmp_Or_int.l1, hb'])]
      simp [hb]
  · have ha' : (a != 0) = true := by simp [ha]
    rw [loopO_eq]
    simp [cmp_Or_int.l1, ha', ha]

/-- The order of accounts. -/
def ordA (a b : Acc) : Int := if cmpI a.1 b.1 ≠ 0 then cmpI a.1 b.1 else if cmpI a.2.1 b.2.1 ≠ 0 then cmpI a.2.1 b.2.1 else cmpI a.2.2 b.2.2
theorem make1_eq (a b : Leg) : entry_Make_1.f a b = some (ordA a.1 b.1) := by
  unfold entry_Make_1.f ordA
  simp only [compare_eq, Option.bind_some, or_eq]

/-- Strictly ahead. -/
def ltA (a b : Acc) : Prop := a.1 < b.1 ∨ (a.1 = b.1 ∧ (a.2.1 < b.2.1 ∨ (a.2.1 = b.2.1 ∧ a.2.2 < b.2.2)))
theorem ordA_neg (a b : Acc) : ordA a b < 0 ↔ ltA a b := by
  unfold ordA ltA cmpI
  repeat' split
  all_goals omega
theorem ltA_irrefl (a : Acc) : ¬ ltA a a := by unfold ltA; omega
theorem ltA_trans {a b c : Acc} (h : ltA a b) (k : ltA b c) : ltA a c := by unfold ltA at *; omega
theorem ltA_tri (a b : Acc) : ltA a b ∨ ltA b a ∨ a = b := by
  obtain ⟨a1, a2, a3⟩ := a
  obtain ⟨b1, b2, b3⟩ := b
  simp only [ltA, Prod.mk.injEq]
  omega
theorem swo : SWO (Go.Proofs.ltOf fun a b : Leg => ordA a.1 b.1) := by
  refine ⟨fun x => ?_, fun x y z h1 h2 => ?_, fun x y z h1 h2 => ?_⟩
  · simp only [Go.Proofs.ltOf, decide_eq_false_iff_not, ordA_neg]; exact ltA_irrefl _
  · simp only [Go.Proofs.ltOf, decide_eq_true_eq, ordA_neg] at *; exact ltA_trans h1 h2
  · simp only [Go.Proofs.ltOf, decide_eq_false_iff_not, ordA_neg] at *
    unfold ltA at *
    omega
/-- What the sort leaves: the same legs, in order. -/
theorem sort_spec (xs : List Leg) (hl : xs.length < 4611686018427387904) :
    ∃ ys, sortM (T := (.pair (.pair (.int .i64) (.pair (.int .i64) (.int .i64))) (.int .i64))) entry_Make_1.f xs = some ys ∧ ys.Perm xs ∧ ys.Pairwise (fun a b => ¬ ltA b.1 a.1) := by
  obtain ⟨ys, h1, h2, h3⟩ := sortM_spec (T := (.pair (.pair (.int .i64) (.pair (.int .i64) (.int .i64))) (.int .i64))) (f := entry_Make_1.f) (xs := xs) (fun a b : Leg => ordA a.1 b.1) make1_eq swo hl
  refine ⟨ys, h1, h2, h3.imp fun {a b} h => ?_⟩
  simpa only [Go.Proofs.ltOf, decide_eq_false_iff_not, ordA_neg] using h
end Go.Proofs.Ytfhcockdlfidmaa.Pure
