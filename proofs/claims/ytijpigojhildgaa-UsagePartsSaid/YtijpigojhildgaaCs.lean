/- Plain laws of the sheet of usage: all rows of the map of rising rows. No statement of its own. -/
import Derived.Test.YtijpigojhildgaaCq
namespace Go.Proofs.Ytijpigojhildgaa.Pure
open Go.Vk Go.Am Go.Pg Go.Sort Go.Proofs Go.Proofs.Ytijpigojhildgaa.Y
set_option linter.unusedVariables false
set_option linter.unusedSimpArgs false
theorem all_rows (R : List RR) (hs : R.Pairwise lt6) (hl : R.length ≤ 1048576) : usage_Sheet_all.f (R.map entQ) = some (R.map entQ, R) := by
  unfold usage_Sheet_all.f
  rw [show Nat.ble (R.map entQ).length 1099511627776 = true from Nat.ble_eq_true_of_le (by rw [List.length_map]; omega), cond_true, keys_of]
  refine anyOrd_of fun l hp => ?_
  rw [show sortM (T := K6) usage_Row_order.f l = some (R.map kq) from sort_keys R hs (by omega) l hp, Option.bind_some]
  have hL : loopO (usage_Sheet_all.l3 (R.map entQ) (R.map kq)) (0, R.map kq) = some R := by
    refine Go.Pg.loop_up (fun i => ((i : Int), R.take i ++ (R.map kq).drop i)) R.length ?_ ?_ ?_
    · simp
    · intro i hi
      have hlen : (R.take i ++ (R.map kq).drop i).length = R.length := by simp; omega
      have hi2 : i < (R.take i ++ (R.map kq).drop i).length := by omega
      have hti : (R.take i).length = i := by simp; omega
      have hget : (R.take i ++ (R.map kq).drop i)[i] = kq R[i] := by
        rw [List.getElem_append_right (by omega)]
        simp [hti]
      have hset : (R.take i ++ (R.map kq).drop i).set i R[i] = R.take (i + 1) ++ (R.map kq).drop (i + 1) := by
        rw [List.set_append_right _ _ (by omega), hti, Nat.sub_self, List.drop_eq_getElem_cons (by simpa using hi), List.set_cons_zero, Go.Pg.take_succ R i hi, List.append_assoc]
        rfl
      have hm := mget_ent R hs R[i] (List.getElem_mem hi)
      have hg := (Go.Pg.at_ (R.take i ++ (R.map kq).drop i) i hi2 (0, (0, (0, (0, (0, 0)))))).trans hget
      unfold usage_Sheet_all.l3
      simp only
      rw [show decide ((i : Int) < ((R.map kq).length : Int)) = true from decide_eq_true (by rw [List.length_map]; omega), cond_true, Go.Pg.ilt hi2, Go.Pg.nn, Bool.and_self, cond_true, cond_true, hg]
      have hv : ((kq R[i]).1, ((kq R[i]).2.1, ((kq R[i]).2.2.1, ((kq R[i]).2.2.2.1, ((kq R[i]).2.2.2.2.1, (mget K6 (.int .i64) (R.map entQ) (kq R[i])).getD (0 : Int)))))) = R[i] := by rw [hm]; rfl
      rw [Go.Pg.wrS i (by omega), Int.toNat_natCast]
      refine congrArg some (congrArg Sum.inl (Prod.ext rfl ?_))
      exact (congrArg (fun v => List.set (R.take i ++ (R.map kq).drop i) i v) hv).trans hset
    · unfold usage_Sheet_all.l3
      simp only
      rw [show decide ((R.length : Int) < ((R.map kq).length : Int)) = false from decide_eq_false (by rw [List.length_map]; omega), cond_false]
      simp
  rw [hL]
  rfl
end Go.Proofs.Ytijpigojhildgaa.Pure
