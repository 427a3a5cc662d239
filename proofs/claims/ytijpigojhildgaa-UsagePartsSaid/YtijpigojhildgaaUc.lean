/- Plain laws of the sheet of usage: the first lines; the law UsageMany. No statement of its own. -/
import Derived.Test.YtijpigojhildgaaUb
namespace Go.Proofs.Ytijpigojhildgaa.Pure
open Go.Vk Go.Am Go.Sort Go.Proofs Go.Proofs.Ytijpigojhildgaa.Y
set_option linter.unusedVariables false
set_option linter.unusedSimpArgs false
def fnz : List Int → Int
  | [] => 0
  | x :: r => if x ≠ 0 then x else fnz r
theorem or_from (l : List Int) (hl : l.length < 4611686018427387904) : ∀ (m k : Nat), k + m = l.length →
    (loopO (cmp_Or_int.l1 l) (k : Int)).bind (fun b4 => (match b4 with | .inl e2 => some e2 | .inr e3 => some (0 : Int))) = some (fnz (l.drop k))
  | 0, k, h => by
    obtain rfl : k = l.length := by omega
    rw [loopO_eq]
    have : cmp_Or_int.l1 l (l.length : Int) = some (.inr (.inr ())) := by unfold cmp_Or_int.l1; simp
    rw [this]
    simp [fnz]
  | m + 1, k, h => by
    have hk : k < l.length := by omega
    rw [loopO_eq, List.drop_eq_getElem_cons hk]
    by_cases h0 : l[k] = 0
    · have : cmp_Or_int.l1 l (k : Int) = some (.inl ((k + 1 : Nat) : Int)) := by
        unfold cmp_Or_int.l1
        rw [Go.Pg.ilt hk, Go.Pg.nn, cond_true, Bool.and_self, cond_true, Go.Pg.at_ l k hk, h0, Go.Pg.wrS k (by omega)]
        rfl
      rw [this]
      simp only [fnz, h0, ne_eq, not_true_eq_false, if_false]
      exact or_from l hl m (k + 1) (by omega)
    · have hb : (l[k] != 0) = true := by simp [h0]
      have : cmp_Or_int.l1 l (k : Int) = some (.inr (.inl l[k])) := by
        unfold cmp_Or_int.l1
        rw [Go.Pg.ilt hk, Go.Pg.nn, cond_true, Bool.and_self, cond_true, Go.Pg.at_ l k hk, hb]
        rfl
      rw [this]
      simp [fnz, h0]
theorem or_eq (l : List Int) (hl : l.length < 4611686018427387904) : cmp_Or_int.f l = some (fnz l) := or_from l hl l.length 0 (by omega)
def ord6 (a b : R6) : Int := fnz [cmpI a.1 b.1, cmpI a.2.1 b.2.1, cmpI a.2.2.1 b.2.2.1, cmpI a.2.2.2.1 b.2.2.2.1, cmpI a.2.2.2.2.1 b.2.2.2.2.1]
theorem order_eq (a b : R6) : usage_Row_order.f a b = some (ord6 a b) := by
  unfold usage_Row_order.f ord6
  simp only [compare_eq, Option.bind_some]
  rw [or_eq _ (by simp)]
  rfl
theorem cmpI_neg (x y : Int) : cmpI x y < 0 ↔ x < y := by unfold cmpI; split <;> (try split) <;> omega
theorem cmpI_ne (x y : Int) : cmpI x y = 0 ↔ x = y := by unfold cmpI; split <;> (try split) <;> omega
theorem fnz_neg (x y : Int) (r : List Int) : fnz (cmpI x y :: r) < 0 ↔ x < y ∨ (x = y ∧ fnz r < 0) := by
  rw [show fnz (cmpI x y :: r) = if cmpI x y ≠ 0 then cmpI x y else fnz r from rfl]
  by_cases h : cmpI x y = 0
  · have := (cmpI_ne x y).1 h
    subst this
    simp [h]
  · have h' : ¬ x = y := fun e => h ((cmpI_ne x y).2 e)
    simp [h, cmpI_neg, h']
def lt6 (a b : R6) : Prop := a.1 < b.1 ∨ (a.1 = b.1 ∧ (a.2.1 < b.2.1 ∨ (a.2.1 = b.2.1 ∧ (a.2.2.1 < b.2.2.1 ∨ (a.2.2.1 = b.2.2.1 ∧ (a.2.2.2.1 < b.2.2.2.1 ∨ (a.2.2.2.1 = b.2.2.2.1 ∧ a.2.2.2.2.1 < b.2.2.2.2.1)))))))
theorem ord6_neg (a b : R6) : ord6 a b < 0 ↔ lt6 a b := by
  unfold ord6 lt6
  simp only [fnz_neg]
  simp [fnz]
theorem swo6 : SWO (Go.Proofs.ltOf ord6) := by
  refine ⟨fun x => ?_, fun x y z h1 h2 => ?_, fun x y z h1 h2 => ?_⟩
  · simp only [Go.Proofs.ltOf, decide_eq_false_iff_not, ord6_neg]; unfold lt6; omega
  · simp only [Go.Proofs.ltOf, decide_eq_true_eq, ord6_neg] at *; unfold lt6 at *; omega
  · simp only [Go.Proofs.ltOf, decide_eq_false_iff_not, ord6_neg] at *
    unfold lt6 at *
    omega
theorem sort6 (xs : List R6) (hl : xs.length < 4611686018427387904) : ∃ ys, sortM (T := K6) usage_Row_order.f xs = some ys ∧ ys.Perm xs ∧ ys.Pairwise (fun a b => ¬ lt6 b a) := by
  obtain ⟨ys, h1, h2, h3⟩ := sortM_spec (T := K6) (f := usage_Row_order.f) (xs := xs) ord6 order_eq swo6 hl
  refine ⟨ys, h1, h2, h3.imp fun {a b} h => ?_⟩
  simpa only [Go.Proofs.ltOf, decide_eq_false_iff_not, ord6_neg] using h
theorem sort_one (x : R6) : sortM (T := K6) usage_Row_order.f [x] = some [x] := by
  obtain ⟨ys, h1, h2, _⟩ := sort6 [x] (by simp)
  rw [h1, List.perm_singleton.1 h2]
/-- the first line's key, and its row -/
def K0 : K6.Den := ky 0 3 1 0 5
def X1 : Sh := [some (K0, (2 : Int))]
def X2 : Sh := [some (K0, (4 : Int))]
def Row0 : R6 := (0, (3, (1, (0, (5, 4)))))
theorem place0 : Place 0 3 1 0 5 := ⟨by decide, by decide, by decide, by decide, by decide, by decide, by decide, by decide, by decide, by decide⟩
theorem add0 : usage_Sheet_Add.f ([] : Sh) 0 3 1 [(0, (2, 5))] = some (X1, 0) := by
  rw [add_gen ([] : Sh) place0 (by decide) (by decide) (by decide) (by decide)]
  rfl
theorem add1 : usage_Sheet_Add.f X1 0 3 1 [(0, (2, 5))] = some (X2, 0) := by
  rw [add_gen X1 place0 (by decide) (by decide) (by decide) (by decide)]
  rfl
theorem all0 : usage_Sheet_all.f X2 = some (X2, [Row0]) := by
  unfold usage_Sheet_all.f
  rw [show Nat.ble (List.length X2) 1099511627776 = true from rfl, cond_true]
  refine anyOrd_of fun l hl => ?_
  obtain rfl := List.perm_singleton.1 (show l.Perm [K0] from hl)
  have hs := sort_one K0
  rw [show sortM (T := K6) usage_Row_order.f [K0] = some [K0] from hs, Option.bind_some]
  have hL : loopO (usage_Sheet_all.l3 X2 [K0]) (0, [K0]) = some [Row0] := by
    refine Go.Pg.loop_up (fun i => ((i : Int), if i = 0 then [K0] else [Row0])) 1 rfl ?_ rfl
    intro i hi
    obtain rfl : i = 0 := by omega
    rfl
  rw [hL]
  rfl
theorem contains3 : slices_Contains___int_int.f [3] 3 = some true := by
  unfold slices_Contains___int_int.f slices_Index___int_int.f
  have : loopO (slices_Index___int_int.l1 [3] 3) 0 = some (.inl 0) := by
    rw [loopO_eq]; rfl
  rw [this]
  rfl
theorem amount0 : usage_Amount.f [Row0] = some (20, true) := by
  unfold usage_Amount.f
  have h1 : loopO (usage_Amount.l1 [Row0]) ([], 0) = some [(0, (4, 5))] := by
    refine Go.Pg.loop_up (fun i => (if i = 0 then [] else [(0, (4, 5))], (i : Int))) 1 rfl ?_ rfl
    intro i hi
    obtain rfl : i = 0 := by omega
    rfl
  rw [h1, Option.bind_some]
  unfold tier_Cost.f
  have h2 : loopO (tier_Cost.l1 [(0, (4, 5))]) ([], 0) = some (.inr [20]) := by
    refine Go.Pg.loop_up (fun i => (if i = 0 then [] else [20], (i : Int))) 1 rfl ?_ rfl
    intro i hi
    obtain rfl : i = 0 := by omega
    rfl
  rw [h2, Option.bind_some]
  simp only
  rw [sum_eq [20] (by decide) (by decide)]
  rfl
theorem position0 : usage_Sheet_Position.f X2 0 3 1 = some (X2, 4) := by
  unfold usage_Sheet_Position.f
  rw [show Nat.beq (List.length X2) (List.length X2) = true from rfl, cond_true]
  refine anyOrd_of fun l hl => ?_
  obtain rfl := List.perm_singleton.1 (show l.Perm [(K0, (4 : Int))] from hl)
  rfl
theorem uses_eq : purserlaw20_uses.f = some true := by
  unfold purserlaw20_uses.f
  rw [add0, Option.bind_some]
  rw [add1, Option.bind_some]
  rw [all0, Option.bind_some]
  have hL : loopO (purserlaw20_uses.l4 (X2, [Row0])) 0 = some (.inr ()) := by
    refine Go.Pg.loop_up (fun i => (i : Int)) 1 rfl ?_ rfl
    intro i hi
    obtain rfl : i = 0 := by omega
    show purserlaw20_uses.l4 (X2, [Row0]) 0 = _
    unfold purserlaw20_uses.l4
    rw [show (([Row0] : List R6).getD (0 : Int).toNat (0, (0, (0, (0, (0, 0)))))) = Row0 from rfl]
    rw [show slices_Contains___int_int.f ([3] : List Int) Row0.2.1 = some true from contains3]
    rfl
  rw [hL, Option.bind_some]
  simp only
  rw [amount0, Option.bind_some, position0]
  rfl
end Go.Proofs.Ytijpigojhildgaa.Pure
