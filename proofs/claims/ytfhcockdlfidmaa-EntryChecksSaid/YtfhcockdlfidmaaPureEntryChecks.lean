/- The plain law of EntryChecks: what the law computes is true, whatever the input. -/
import Derived.Test.YtfhcockdlfidmaaEh
namespace Go.Proofs.Ytfhcockdlfidmaa.Pure
open Go.Vk Go.Am Go.Pg Go.Sort Go.Proofs.Ytfhcockdlfidmaa.Y
set_option linter.unusedVariables false
set_option linter.unusedSimpArgs false

theorem sumL_snoc : ∀ (l : List Int) (x : Int), sumL (l ++ [x]) = sumL l + x
  | [], x => by simp [sumL]
  | y :: l, x => by simp only [List.cons_append, sumL, sumL_snoc l x]; omega
theorem deb_take (l : List Leg) (i : Nat) (h : i < l.length) : deb (l.take (i + 1)) = deb (l.take i) + (if (0 : Int) > (l[i]).2 then 0 else (l[i]).2) := by
  unfold deb
  rw [take_succ l i h, List.map_append, List.map_singleton, sumL_snoc]
theorem deb_bd : ∀ (l : List Leg), (∀ x ∈ l, sm x) → 0 ≤ deb l ∧ deb l ≤ 9007199254740992 * (l.length : Int)
  | [], _ => by simp [deb, sumL]
  | x :: l, h => by
    have h1 := (h x (by simp)).2.2.2
    have h2 := deb_bd l (fun y hy => h y (by simp [hy]))
    have e : deb (x :: l) = (if (0 : Int) > x.2 then 0 else x.2) + deb l := rfl
    rw [e, List.length_cons]
    split <;> omega
theorem EntryChecks (e : Int × List (Int × Int × Int × Int)) (h : wfTy (.pair (.int .i64) (.slice (.pair (.int .i64) (.pair (.int .i64) (.pair (.int .i64) (.int .i64)))))) e) : purserlaw07_EntryChecks.f e = some true := by
  obtain ⟨k, l0⟩ := e
  obtain ⟨hk, hl0, hx⟩ := h
  have hl0 : l0.length ≤ 9223372036854775807 := Nat.le_trans hl0 (by decide)
  unfold purserlaw07_EntryChecks.f
  rw [tame_eq k l0 hl0, Option.bind_some]
  generalize hl : l0.take 70 = l
  have hlen : l.length ≤ 70 := by rw [← hl]; simp; omega
  have hmlen : (l.map toL).length = l.length := by simp
  have hfr : (l.map toL).map frL = l := by
    rw [List.map_map]
    exact List.map_id _
  dsimp only
  rw [to_eq k l hlen, Option.bind_some, rcheck_eq k l (by omega), Option.bind_some]
  dsimp only
  by_cases hc : chk k (l.map toL) = 0
  · obtain ⟨hkk, hll, hs⟩ := chk_ok hc
    rw [hmlen] at hll
    rw [write_eq k _ hc, Option.bind_some, hc]
    rw [loop_up (f := purserlaw07_EntryChecks.l5 (k, l) 0) (s0 := ((0 : Int), (0 : Int))) (fun i => (deb ((l.map toL).take i), (i : Int))) l.length (b := deb (l.map toL)) rfl ?_ ?_]
    · rw [Option.bind_some, entries_eq, Option.bind_some]
      dsimp only
      rw [check_eq k _ (by omega), Option.bind_some, hc]
      rw [sum_entry k _ (by omega), hc]
      simp only [ne_eq, not_true_eq_false, if_false, Bool.not_true, Bool.not_false, cond_true, bne_self_eq_false, Option.bind_some, cond_false]
      rw [from_eq k _ (by omega), hfr, Option.bind_some]
      dsimp only
      rw [same_refl (k, l) (by simp; omega), Option.bind_some]
      simp only [Bool.not_true, Option.bind_some, cond_false]
      rw [read_eq k _ hc, Option.bind_some]
      dsimp only
      rw [rwrite_eq k l hc, Option.bind_some]
      rw [beq_self_eq_true, cond_true]
      rw [show ((0 : Int) == 0) = true from rfl, cond_true, from_eq k _ (by omega), hfr, Option.bind_some]
      dsimp only
      rw [same_refl (k, l) (by simp; omega), Option.bind_some]
      rfl
    · intro i hi
      have hi' : i < (l.map toL).length := by rw [hmlen]; exact hi
      have hb := deb_bd ((l.map toL).take i) (fun x hx => hs x (List.mem_of_mem_take hx))
      have hti : ((l.map toL).take i).length = i := by simp; omega
      have hm := (hs _ (List.getElem_mem hi')).2.2.2
      have hel : (l.map toL)[i] = toL l[i] := by simp
      have hd := deb_take (l.map toL) i hi'
      rw [hel] at hm hd
      have hx2 : (toL l[i]).2 = (l[i]).2.2.2 := rfl
      rw [hx2] at hm hd
      rw [hti] at hb
      unfold purserlaw07_EntryChecks.l5
      dsimp only
      rw [ilt hi, cond_true]
      rw [show ((0 : Int) == 0) = true from rfl, Option.bind_some, cond_true, nn, Bool.and_self, cond_true, at_ l i hi, hd, wrS i (by omega), wr _ (by split <;> omega) (by split <;> omega)]
    · unfold purserlaw07_EntryChecks.l5
      dsimp only
      rw [ige, cond_false, Option.bind_some, cond_false]
      have : (l.map toL).take l.length = l.map toL := by rw [List.take_of_length_le]; simp
      rw [this]
  · rw [write_bad k _ (by omega) hc, Option.bind_some]
    have hloop : loopO (purserlaw07_EntryChecks.l5 (k, l) (chk k (l.map toL))) (0, 0) = some 0 := by
      rw [loopO_eq]
      have e1 : (chk k (l.map toL) == 0) = false := by simp [hc]
      unfold purserlaw07_EntryChecks.l5
      dsimp only
      rw [e1]
      cases decide ((0 : Int) < (l.length : Int)) <;> rfl
    have e2 : (chk k (l.map toL) != 0) = true := by simp [hc]
    dsimp only
    rw [hloop, Option.bind_some, entries_eq, Option.bind_some, check_eq k _ (by omega), Option.bind_some, sum_entry k _ (by omega)]
    simp only [hc, ne_eq, not_false_eq_true, if_true, Bool.not_true, Bool.not_false, cond_true, bne_self_eq_false, Option.bind_some, cond_false]
    rw [from_eq k _ (by omega), hfr, Option.bind_some]
    dsimp only
    rw [same_refl (k, l) (by simp; omega), Option.bind_some]
    simp only [Bool.not_true, Option.bind_some, cond_false, e2, cond_true]
    rfl
end Go.Proofs.Ytfhcockdlfidmaa.Pure
