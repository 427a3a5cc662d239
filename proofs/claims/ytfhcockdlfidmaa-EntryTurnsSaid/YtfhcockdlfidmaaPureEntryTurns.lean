/- The plain law of EntryTurns: what the law computes is true, whatever the input. -/
import Derived.Test.YtfhcockdlfidmaaEc
namespace Go.Proofs.Ytfhcockdlfidmaa.Pure
open Go.Vk Go.Am Go.Pg Go.Sort Go.Proofs.Ytfhcockdlfidmaa.Y
set_option linter.unusedVariables false
set_option linter.unusedSimpArgs false

theorem bne_self (x : Int) : (x != x) = false := by simp
theorem op_op {x : Leg} (h : i64 x.2) : opL (opL x) = x := by
  obtain ⟨a, n⟩ := x
  show (a, neg (neg n)) = (a, n)
  rw [show neg (neg n) = n from neg_neg n h.1 h.2]
theorem EntryTurns (e : Int × List (Int × Int × Int × Int)) (h : wfTy (.pair (.int .i64) (.slice (.pair (.int .i64) (.pair (.int .i64) (.pair (.int .i64) (.int .i64)))))) e) : purserlaw07_EntryTurns.f e = some true := by
  obtain ⟨k, l0⟩ := e
  obtain ⟨hk, hl0, hx⟩ := h
  have hl0 : l0.length ≤ 9223372036854775807 := Nat.le_trans hl0 (by decide)
  have hi : ∀ x ∈ l0, i64 x.2.2.2 := fun x hxm => wf_i64 (hx x hxm).2.2.2
  unfold purserlaw07_EntryTurns.f
  simp only [tame_eq k l0 hl0, Option.bind_some]
  generalize hl : l0.take 70 = l
  have hlen : l.length ≤ 70 := by rw [← hl]; simp; omega
  have hi : ∀ x ∈ l, i64 x.2.2.2 := fun x hxm => hi x (List.mem_of_mem_take (hl ▸ hxm))
  have hi' : ∀ x ∈ l.map toL, i64 x.2 := fun x hxm => by
    obtain ⟨y, hy, rfl⟩ := List.mem_map.1 hxm
    exact hi y hy
  have hopop : ((l.map toL).map opL).map opL = l.map toL := by
    rw [List.map_map]
    exact (List.map_congr_left (fun x hxm => op_op (hi' x hxm))).trans (List.map_id _)
  have hfr : (l.map toL).map frL = l := by
    rw [List.map_map]
    exact List.map_id _
  simp only [to_eq k l hlen, Option.bind_some, op_eq k (l.map toL) (by simpa using hlen), entries_eq, List.length_map, Bool.not_true, Bool.not_false, cond_true, bne_self, cond_false]
  rw [loop_up (s0 := 0) (fun i => (i : Int)) l.length (b := .inr ()) rfl ?_ ?_]
  · simp only [Option.bind_some, beq_self_eq_true, cond_true]
    rw [op_eq k _ (by simpa using hlen), hopop]
    simp only [Option.bind_some]
    rw [from_eq k _ (by simpa using hlen), hfr]
    simp only [Option.bind_some]
    rw [same_refl (k, l) (by simp; omega)]
    simp only [Option.bind_some, cond_true]
    rw [check_eq k _ (by simp; omega), check_eq k _ (by simp; omega)]
    simp only [Option.bind_some]
    have := chk_op k (l.map toL) hi'
    by_cases hc : chk k (l.map toL) = 0
    · rw [hc, this.2 hc]; rfl
    · have hc' : ¬ chk k ((l.map toL).map opL) = 0 := fun h => hc (this.1 h)
      have e1 : (chk k (l.map toL) == 0) = false := by simp [hc]
      have e2 : (chk k ((l.map toL).map opL) == 0) = false := by simpa using hc'
      rw [e1, e2]
      rfl
  · intro i hil
    have h1 : i < (l.map toL).length := by simpa using hil
    have h2 : i < ((l.map toL).map opL).length := by simpa using hil
    simp only [purserlaw07_EntryTurns.l6, ilt h1, ilt h2, nn, at_ _ i h1, at_ _ i h2, cond_true, Bool.and_self, wrS i (by omega), List.getElem_map, opL, beq_self_eq_true, Bool.not_true, Bool.not_false, Option.bind_some, neg, bne_self, cond_false]
  · have h1 : ((l.length : Int) < ((l.map toL).length : Int)) = False := by simp
    simp only [purserlaw07_EntryTurns.l6, List.length_map, ige, cond_false]
end Go.Proofs.Ytfhcockdlfidmaa.Pure
