/- The plain law of EntrySums: what the law computes is true, whatever the input. -/
import Derived.Test.YtfhcockdlfidmaaEc
namespace Go.Proofs.Ytfhcockdlfidmaa.Pure
open Go.Vk Go.Am Go.Pg Go.Sort Go.Proofs.Ytfhcockdlfidmaa.Y
set_option linter.unusedVariables false
set_option linter.unusedSimpArgs false

theorem sumL_perm {l l' : List Int} (h : l.Perm l') : sumL l = sumL l' := by
  induction h with
  | nil => rfl
  | cons x _ ih => simp only [sumL, ih]
  | swap x y l => simp only [sumL]; omega
  | trans _ _ h1 h2 => exact h1.trans h2
theorem sumL_app : ∀ (l l' : List Int), sumL (l ++ l') = sumL l + sumL l'
  | [], l' => by simp [sumL]
  | x :: l, l' => by simp only [List.cons_append, sumL, sumL_app l l']; omega
theorem deb_perm {l l' : List Leg} (h : l.Perm l') : deb l = deb l' := sumL_perm (h.map _)
theorem deb_app (l l' : List Leg) : deb (l ++ l') = deb l + deb l' := by unfold deb; rw [List.map_append, sumL_app]
theorem deb_flat (f : Int → List Leg) (a : Int) : ∀ (nodes : List Int), (∀ n, deb (f n) = a) → deb (nodes.flatMap f) = a * nodes.length
  | [], _ => by simp [deb, sumL]
  | n :: nodes, h => by
    rw [List.flatMap_cons, deb_app, h n, deb_flat f a nodes h, List.length_cons, Int.natCast_add, Int.mul_add]
    simp only [Int.natCast_one, Int.mul_one]
    omega
def pos (x : Int) : Int := if (0 : Int) > x then 0 else x
theorem pos_hi {x : Int} (h : 0 ≤ x) : pos x = x := by unfold pos; rw [if_neg (by omega)]
theorem pos_lo {x : Int} (h : x ≤ 0) : pos x = 0 := by unfold pos; split <;> omega
theorem deb_one (x : Leg) : deb [x] = pos x.2 := by simp [deb, sumL, pos]
theorem sides1 {k : Int} : (sidesOf k).1 = 1 ↔ k = 1 := by
  unfold sidesOf
  constructor
  · intro h
    repeat' (split at h)
    all_goals first | assumption | exact absurd h (by decide)
  · rintro rfl; rfl
theorem mul3 {a : Int} (h1 : 1 ≤ a) (h2 : a ≤ 9007199254740992) {n : Nat} (hn : n ≤ 3) : 0 ≤ a * (n : Int) ∧ a * (n : Int) ≤ 27021597764222976 := by
  rcases n with _ | _ | _ | _ | n
  · simp
  · simp; omega
  · simp; omega
  · simp; omega
  · omega
theorem deb_legs (k a g : Int) (nodes : List Int) (h1 : 1 ≤ a) (h2 : a ≤ 9007199254740992) (hn : nodes.length ≤ 3) : deb (legsOf k a g nodes) = a * nodes.length := by
  have hneg : neg a = -a := neg_eq (by omega) (by omega)
  have hm := mul3 h1 h2 hn
  unfold legsOf
  by_cases hk : (sidesOf k).1 = 1
  · rw [if_pos hk, deb_app, deb_one, deb_flat _ 0]
    · show pos (IntKind.i64.wrap (a * (nodes.length : Int))) + _ = _
      rw [wr _ (by omega) (by omega), pos_hi (by omega)]
      omega
    · intro n
      unfold legsAt
      rw [if_pos hk, List.nil_append, deb_one]
      show pos (neg a) = 0
      rw [hneg, pos_lo (by omega)]
  · rw [if_neg hk, List.nil_append, deb_flat _ a]
    intro n
    unfold legsAt
    rw [if_neg hk, deb_app, deb_one, deb_one]
    show pos a + pos (neg a) = a
    rw [hneg, pos_hi (by omega), pos_lo (by omega)]
    omega
theorem deb_legs_op (k a g : Int) (nodes : List Int) (h1 : 1 ≤ a) (h2 : a ≤ 9007199254740992) (hn : nodes.length ≤ 3) : deb ((legsOf k a g nodes).map opL) = a * nodes.length := by
  have hneg : neg a = -a := neg_eq (by omega) (by omega)
  have hneg2 : neg (-a) = a := by rw [neg_eq (by omega) (by omega)]; omega
  have hm := mul3 h1 h2 hn
  unfold legsOf
  by_cases hk : (sidesOf k).1 = 1
  · rw [if_pos hk, List.map_append, deb_app, List.map_singleton, deb_one, List.map_flatMap, deb_flat _ a]
    · show pos (neg (IntKind.i64.wrap (a * (nodes.length : Int)))) + _ = _
      have : neg (IntKind.i64.wrap (a * (nodes.length : Int))) = - (a * (nodes.length : Int)) := by
        unfold neg
        rw [wr (a * (nodes.length : Int)) (by omega) (by omega), wr _ (by omega) (by omega)]
        omega
      rw [this, pos_lo (by omega)]
      omega
    · intro n
      unfold legsAt
      rw [if_pos hk, List.nil_append, List.map_singleton, deb_one]
      show pos (neg (neg a)) = a
      rw [hneg, hneg2, pos_hi (by omega)]
  · rw [if_neg hk, List.nil_append, List.map_flatMap, deb_flat _ a]
    intro n
    unfold legsAt
    rw [if_neg hk, List.map_append, deb_app, List.map_singleton, List.map_singleton, deb_one, deb_one]
    show pos (neg a) + pos (neg (neg a)) = a
    rw [hneg, hneg2, pos_lo (by omega), pos_hi (by omega)]
    omega
theorem chk_i64 {k : Int} {l : List Leg} (h : chk k l = 0) : ∀ x ∈ l, -9007199254740992 ≤ x.2 ∧ x.2 ≤ 9007199254740992 := by
  unfold chk at h
  split at h
  · exact absurd h (by decide)
  · split at h
    · exact absurd h (by decide)
    · split at h
      · rename_i h3; exact absurd h h3
      · rename_i h3; exact fun x hx => (chkL_amt (Decidable.of_not_not h3) x hx).2

theorem EntrySums (k a : Int) (l0 : List Int) (_ : wfTy (.int .i64) k) (_ : wfTy (.int .i64) a) (_ : wfTy (.slice (.int .i64)) l0) : purserlaw07_EntrySums.f k a l0 = some true := by
  unfold purserlaw07_EntrySums.f
  rw [show ((3 : Int)) = ((3 : Nat) : Int) from rfl, cut_ok l0 3, cut_eq l0 3, cond_true]
  generalize hn : l0.take 3 = nodes
  have hnl : nodes.length ≤ 3 := by rw [← hn]; simp; omega
  have h0 : entry_Sum.f (0, []) = some 0 := by
    rw [sum_entry 0 [] (by simp)]
    rfl
  by_cases hk : 1 ≤ k ∧ k ≤ 6
  · by_cases ha : 1 ≤ a ∧ a ≤ 9007199254740992 ∧ pathB nodes = true
    · obtain ⟨ys, hp, hs, hm⟩ := make_ok k a nodes 1 hk ha
      rw [hm]
      by_cases hc : chk k ys = 0
      · have hyl : ys.length ≤ 7 := by rw [hp.length_eq]; exact legs_len k a 1 nodes hnl
        have hi := chk_i64 hc
        have hm3 := mul3 ha.1 ha.2.1 hnl
        have e1 : deb ys = a * nodes.length := by rw [deb_perm hp]; exact deb_legs k a 1 nodes ha.1 ha.2.1 hnl
        have e2 : deb (ys.map opL) = a * nodes.length := by rw [deb_perm (hp.map _)]; exact deb_legs_op k a 1 nodes ha.1 ha.2.1 hnl
        have e3 : chk k (ys.map opL) = 0 := (chk_op k ys (fun x hx => by have := hi x hx; unfold i64; omega)).2 hc
        have s1 : entry_Sum.f (k, ys) = some (a * nodes.length) := by rw [sum_entry k ys (by omega), hc, e1]; rfl
        have s2 : entry_Sum.f (k, ys.map opL) = some (a * nodes.length) := by rw [sum_entry k _ (by simp; omega), e3, e2]; rfl
        have s3 : entry_Opposite.f (k, ys) = some (k, ys.map opL) := op_eq k ys (by omega)
        have ew : IntKind.i64.wrap (a * (nodes.length : Int)) = a * nodes.length := wr _ (by omega) (by omega)
        simp only [hc, ne_eq, not_true_eq_false, if_false, Option.bind_some, entries_eq, Bool.not_true, Bool.not_false, cond_true, bne_self_eq_false, cond_false, s1, s2, s3, ew, beq_self_eq_true]
      · have e : (chk k ys != 0) = true := by simp [hc]
        simp [hc, e, entries_eq, h0]
    · rw [make_arg k a nodes 1 hk ha]
      simp [entries_eq, h0]
  · rw [make_kind k a nodes 1 hk]
    simp [entries_eq, h0]
end Go.Proofs.Ytfhcockdlfidmaa.Pure
