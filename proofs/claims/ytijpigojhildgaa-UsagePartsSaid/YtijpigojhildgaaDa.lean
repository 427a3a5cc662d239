/- Plain laws of the sheet of usage: lines that are added, whatever they are. No statement of its own. -/
import Derived.Test.YtijpigojhildgaaCs
import Derived.Test.YtijpigojhildgaaCw
namespace Go.Proofs.Ytijpigojhildgaa.Pure
open Go.Vk Go.Am Go.Pg Go.Sort Go.Proofs Go.Proofs.Ytijpigojhildgaa.Y
set_option linter.unusedVariables false
set_option linter.unusedSimpArgs false
/-- a line as a row -/
def lrow (a b c : Int) (x : L3) : RR := (a, (b, (c, (x.1, (x.2.2, x.2.1)))))
def goodx (a b c : Int) (x : L3) : Bool := placeB (lrow a b c x) && inB x.2.1 0 1099511627776
def posx (x : L3) : Bool := decide (0 < x.2.1)
theorem changes_loop (a b c : Int) (o : Ln) (ok : Bool) : ∀ (m k : Nat) (acc : List R6), k + m = o.length → acc.length + m ≤ 1048576 → k + m ≤ 1048576 →
    loopO (usage_Sheet_changes.l3 a b c (o, ok)) (acc, (k : Int)) = some (bif (o.drop k).all (goodx a b c) then .inr (acc ++ ((o.drop k).filter posx).map (lrow a b c)) else .inl ([], 1))
  | 0, k, acc, h, hl, hk2 => by
    obtain rfl : k = o.length := by omega
    rw [loopO_eq]
    have : usage_Sheet_changes.l3 a b c (o, ok) (acc, (o.length : Int)) = some (.inr (.inr acc)) := by unfold usage_Sheet_changes.l3; simp
    rw [this]
    simp
  | m + 1, k, acc, h, hl, hk2 => by
    have hk : k < o.length := by omega
    rw [loopO_eq, List.drop_eq_getElem_cons hk]
    have hs : usage_Sheet_changes.l3 a b c (o, ok) (acc, (k : Int)) = bif goodx a b c o[k] then some (.inl (acc ++ (if posx o[k] then [lrow a b c o[k]] else []), ((k + 1 : Nat) : Int))) else some (.inr (.inl ([], 1))) := by
      unfold usage_Sheet_changes.l3
      simp only
      rw [Go.Pg.ilt hk, Go.Pg.nn, cond_true, Bool.and_self, cond_true, Go.Pg.at_ o k hk, place_eq, Option.bind_some, uwithin_eq]
      show (((bif !(!(placeB (lrow a b c o[k]))) then _ else _) : Option Bool).bind _) = _
      unfold goodx
      cases hp : placeB (lrow a b c o[k]) with
      | false => rfl
      | true =>
        simp only [Bool.not_true, Bool.not_false, cond_true, Option.bind_some, Bool.true_and]
        cases hw : inB (o[k].2).1 0 1099511627776 with
        | false => rfl
        | true =>
          simp only [Bool.not_true, cond_false, cond_true]
          rw [Go.Pg.wrS k (by omega)]
          by_cases hpos : (o[k].2).1 > 0
          · rw [decide_eq_true hpos, cond_true, show decide (acc.length + ([(a, (b, (c, ((o[k]).1, (((o[k]).2).2, ((o[k]).2).1)))))] : List (Int × Int × Int × Int × Int × Int)).length ≤ 1099511627776) = true from decide_eq_true (by simp; omega), cond_true, Option.bind_some]
            have : posx o[k] = true := decide_eq_true hpos
            rw [this]
            rfl
          · rw [decide_eq_false hpos, cond_false, Option.bind_some]
            have : posx o[k] = false := decide_eq_false hpos
            rw [this]
            simp
    rw [hs]
    cases hg : goodx a b c o[k] with
    | false => simp only [cond_false, List.all_cons, hg, Bool.false_and]; rfl
    | true =>
      simp only [cond_true]
      have hacc : (acc ++ (if posx o[k] = true then [lrow a b c o[k]] else [])).length + m ≤ 1048576 := by split <;> simp <;> omega
      have ih := changes_loop a b c o ok m (k + 1) _ (by omega) hacc (by omega)
      show loopO (usage_Sheet_changes.l3 a b c (o, ok)) (acc ++ (if posx o[k] = true then [lrow a b c o[k]] else []), ((k + 1 : Nat) : Int)) = _
      rw [ih]
      simp only [List.all_cons, hg, Bool.true_and]
      congr 1
      cases (o.drop (k + 1)).all (goodx a b c) with
      | false => rfl
      | true =>
        simp only [cond_true]
        congr 1
        rw [List.filter_cons]
        split <;> simp
theorem place0_eq {a b c : Int} {t p n : Int} (h : placeB (a, (b, (c, (t, (p, n))))) = true) : placeB (a, (b, (c, (0, (0, 0))))) = true := by
  unfold placeB inB at *
  simp at *
  omega
/-- What lines would change. -/
theorem changes_eq (xs : Sh) (a b c : Int) {L o : Ln} {ok : Bool} (hm : tier_Merge.f L [] = some (o, ok)) (hl : o.length ≤ 1000) :
    usage_Sheet_changes.f xs a b c L = some (xs, (bif placeB (a, (b, (c, (0, (0, 0))))) && (ok && o.all (goodx a b c)) then ((o.filter posx).map (lrow a b c), 0) else ([], 1))) := by
  unfold usage_Sheet_changes.f
  rw [place_eq, Option.bind_some]
  cases placeB (a, (b, (c, (0, (0, 0))))) with
  | false => rfl
  | true =>
    rw [show (!true) = false from rfl, cond_false, hm, Option.bind_some]
    cases ok with
    | false => rfl
    | true =>
      simp only [Bool.not_true, cond_false, Bool.true_and]
      have := changes_loop a b c o true o.length 0 [] (by omega) (by simp; omega) (by omega)
      simp only [Int.natCast_zero, List.drop_zero, List.nil_append] at this
      rw [show loopO (usage_Sheet_changes.l3 a b c (o, true)) ([], 0) = _ from this, Option.bind_some]
      cases o.all (goodx a b c) <;> rfl
/-- a row more -/
def addRow (M : Sh) (q : RR) : Sh := mset K6 (.int .i64) M (kq q) (have_ M (kq q) + q.2.2.2.2.2)
def newR (xs : Sh) (q : RR) : Bool := !(mget K6 (.int .i64) xs (kq q)).isSome
theorem add_l2 (xs : Sh) (R : List RR) (e : Int) (h : ∀ q ∈ R, 0 ≤ have_ xs (kq q) ∧ 0 ≤ q.2.2.2.2.2 ∧ have_ xs (kq q) + q.2.2.2.2.2 ≤ 1099511627776) (hR : R.length ≤ 1000) (hx : mlen K6 (.int .i64) xs ≤ 1000000) :
    loopO (usage_Sheet_Add.l2 (xs, (R, e))) ((mlen K6 (.int .i64) xs : Int), false, 0) = some (((mlen K6 (.int .i64) xs + (R.filter (newR xs)).length : Nat) : Int), false) := by
  refine Go.Pg.loop_up (fun i => (((mlen K6 (.int .i64) xs + ((R.take i).filter (newR xs)).length : Nat) : Int), false, (i : Int))) R.length (by simp) ?_ ?_
  · intro i hi
    have hq := h R[i] (List.getElem_mem hi)
    have hfl := List.length_filter_le (newR xs) (R.take i)
    rw [List.length_take] at hfl
    unfold usage_Sheet_Add.l2
    simp only
    rw [Go.Pg.ilt hi, Go.Pg.nn, cond_true, Bool.and_self, cond_true, Go.Pg.at_ R i hi]
    rw [show usage_Row_key.f ((R[i]).1, (((R[i]).2).1, ((((R[i]).2).2).1, (((((R[i]).2).2).2).1, ((((((R[i]).2).2).2).2).1, (((((R[i]).2).2).2).2).2))))) = some (kq R[i]) from rfl, Option.bind_some]
    show ((bif (!((mget K6 (.int .i64) xs (kq R[i])).isSome)) then some (IntKind.i64.wrap (((mlen K6 (.int .i64) xs + ((R.take i).filter (newR xs)).length : Nat) : Int) + 1)) else some ((mlen K6 (.int .i64) xs + ((R.take i).filter (newR xs)).length : Nat) : Int)) : Option Int).bind (fun e4 => ((bif !false then some (decide (IntKind.i64.wrap (have_ xs (kq R[i]) + R[i].2.2.2.2.2) > 1099511627776)) else some true) : Option Bool).bind fun e5 => some (Sum.inl (e4, e5, IntKind.i64.wrap ((i : Int) + 1)))) = _
    rw [Go.Pg.wr (have_ xs (kq R[i]) + R[i].2.2.2.2.2) (by omega) (by omega), show decide (have_ xs (kq R[i]) + R[i].2.2.2.2.2 > 1099511627776) = false from decide_eq_false (by omega), Go.Pg.wrS i (by omega), Go.Pg.take_succ R i hi, List.filter_append]
    cases hn : (mget K6 (.int .i64) xs (kq R[i])).isSome with
    | true =>
      have : newR xs R[i] = false := by unfold newR; rw [hn]; rfl
      simp [this]
    | false =>
      have : newR xs R[i] = true := by unfold newR; rw [hn]; rfl
      simp only [Bool.not_false, cond_true, Option.bind_some]
      rw [Go.Pg.wr _ (by omega) (by omega)]
      simp [this]
      omega
  · unfold usage_Sheet_Add.l2
    simp only
    rw [Go.Pg.ige, cond_false, List.take_of_length_le (Nat.le_refl _)]
/-- Rows that are added, none of which becomes too great. -/
theorem add_l7 (xs : Sh) (R : List RR) (e : Int) (hR : R.length ≤ 1000) (h : ∀ i (hi : i < R.length), -9223372036854775808 ≤ have_ ((R.take i).foldl addRow xs) (kq R[i]) + R[i].2.2.2.2.2 ∧ have_ ((R.take i).foldl addRow xs) (kq R[i]) + R[i].2.2.2.2.2 ≤ 9223372036854775807) :
    loopO (usage_Sheet_Add.l7 (xs, (R, e))) (0, xs) = some (R.foldl addRow xs) := by
  refine Go.Pg.loop_up (fun i => ((i : Int), (R.take i).foldl addRow xs)) R.length rfl ?_ ?_
  · intro i hi
    obtain ⟨h1, h2⟩ := h i hi
    rw [Go.Pg.take_succ R i hi, List.foldl_append]
    generalize (R.take i).foldl addRow xs = M at h1 h2
    unfold usage_Sheet_Add.l7
    simp only
    rw [Go.Pg.ilt hi, Go.Pg.nn, cond_true, Bool.and_self, cond_true, Go.Pg.at_ R i hi]
    rw [show usage_Row_key.f ((R[i]).1, (((R[i]).2).1, ((((R[i]).2).2).1, (((((R[i]).2).2).2).1, ((((((R[i]).2).2).2).2).1, (((((R[i]).2).2).2).2).2))))) = some (kq R[i]) from rfl, Option.bind_some]
    have hh : mhas K6 (.int .i64) (mset K6 (.int .i64) M (kq R[i]) (have_ M (kq R[i]))) (mpos K6 (.int .i64) M (kq R[i])) = true := Go.Pg.has_set M _ _ rfl
    have hp := Go.Pg.put_set M (kq R[i]) (have_ M (kq R[i])) (have_ M (kq R[i]) + R[i].2.2.2.2.2) rfl
    show (bif (decide (0 ≤ ((mpos K6 (.int .i64) M (kq R[i]) : Nat) : Int)) && mhas K6 (.int .i64) (mset K6 (.int .i64) M (kq R[i]) (have_ M (kq R[i]))) (((mpos K6 (.int .i64) M (kq R[i]) : Nat) : Int)).toNat) then some (Sum.inl (IntKind.i64.wrap ((i : Int) + 1), mput K6 (.int .i64) (mset K6 (.int .i64) M (kq R[i]) (have_ M (kq R[i]))) (((mpos K6 (.int .i64) M (kq R[i]) : Nat) : Int)).toNat (IntKind.i64.wrap (have_ M (kq R[i]) + R[i].2.2.2.2.2)))) else none) = _
    rw [Go.Pg.nn, Bool.true_and, Int.toNat_natCast, hh, cond_true, Go.Pg.wr _ h1 h2, hp, Go.Pg.wrS i (by omega)]
    rfl
  · unfold usage_Sheet_Add.l7
    simp only
    rw [Go.Pg.ige, cond_false, List.take_of_length_le (Nat.le_refl _)]
end Go.Proofs.Ytijpigojhildgaa.Pure
