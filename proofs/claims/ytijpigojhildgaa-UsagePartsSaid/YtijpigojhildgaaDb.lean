/- Plain laws of the sheet of usage: lines that are added in two parts. No statement of its own. -/
import Derived.Test.YtijpigojhildgaaDa
import Derived.Test.YtijpigojhildgaaPq
namespace Go.Proofs.Ytijpigojhildgaa.Pure
open Go.Vk Go.Am Go.Pg Go.Sort Go.Proofs Go.Proofs.Ytijpigojhildgaa.Y
set_option linter.unusedVariables false
set_option linter.unusedSimpArgs false
theorem k6 : flatT K6 = true := rfl
theorem have_none {xs : Sh} {k : K6.Den} (h : mget K6 (.int .i64) xs k = none) : have_ xs k = 0 := by unfold have_; rw [h]; rfl
theorem have_some {xs : Sh} {k : K6.Den} {v : Int} (h : mget K6 (.int .i64) xs k = some v) : have_ xs k = v := by unfold have_; rw [h]; rfl
/-- What is there behind rows of unlike keys. -/
theorem mget_add : ∀ (R : List RR) (xs : Sh) (k : K6.Den), (R.map kq).Nodup → (∀ q ∈ R, kq q = k → mget K6 (.int .i64) (R.foldl addRow xs) k = some (have_ xs k + q.2.2.2.2.2)) ∧ ((∀ q ∈ R, kq q ≠ k) → mget K6 (.int .i64) (R.foldl addRow xs) k = mget K6 (.int .i64) xs k)
  | [], xs, k, _ => ⟨fun q h => by simp at h, fun _ => rfl⟩
  | p :: R, xs, k, hn => by
    simp only [List.map_cons, List.nodup_cons] at hn
    obtain ⟨h1, h2⟩ := mget_add R (addRow xs p) k hn.2
    have hne : ∀ q ∈ R, kq q ≠ kq p := fun q hq e => hn.1 (e ▸ List.mem_map.2 ⟨q, hq, rfl⟩)
    refine ⟨fun q hq hk => ?_, fun h => ?_⟩
    · rcases List.mem_cons.1 hq with rfl | hq
      · subst hk
        rw [List.foldl_cons, h2 hne]
        unfold addRow
        rw [set_get, eqT_self k6, cond_true]
      · have hpk : k ≠ kq p := fun e => hne q hq (hk.trans e)
        rw [List.foldl_cons, h1 q hq hk]
        congr 2
        unfold have_ addRow
        rw [set_get, eqT_ne k6 hpk, cond_false]
    · rw [List.foldl_cons, h2 (fun q hq => h q (by simp [hq]))]
      unfold addRow
      rw [set_get, eqT_ne k6 (fun e => h p (by simp) e.symm), cond_false]
theorem keys_add : ∀ (R : List RR) (xs : Sh), (keysM xs).Nodup → (keysM (R.foldl addRow xs)).Nodup
  | [], xs, h => h
  | p :: R, xs, h => keys_add R (addRow xs p) (mset_nodup k6 h _ _)
theorem mlen_add : ∀ (R : List RR) (xs : Sh), mlen K6 (.int .i64) (R.foldl addRow xs) ≤ mlen K6 (.int .i64) xs + R.length
  | [], xs => Nat.le_refl _
  | p :: R, xs => by
    have h1 := mlen_add R (addRow xs p)
    have h2 : mlen K6 (.int .i64) (addRow xs p) ≤ mlen K6 (.int .i64) xs + 1 := by
      unfold addRow; rw [mlen_set]; cases (mget K6 (.int .i64) xs (kq p)).isSome <;> simp
    simp only [List.foldl_cons, List.length_cons]
    omega
theorem have_take {R : List RR} {xs : Sh} (hn : (R.map kq).Nodup) (i : Nat) (hi : i < R.length) : have_ ((R.take i).foldl addRow xs) (kq R[i]) = have_ xs (kq R[i]) := by
  have hni : ((R.take i).map kq).Nodup := by rw [List.map_take]; exact hn.sublist (List.take_sublist _ _)
  have := (mget_add (R.take i) xs (kq R[i]) hni).2 (fun q hq e => by
    obtain ⟨j, hj, rfl⟩ := List.mem_iff_getElem.1 hq
    rw [List.length_take] at hj
    rw [List.getElem_take] at e
    have h1 : (R.map kq)[j]'(by simp; omega) = (R.map kq)[i]'(by simpa using hi) := by simpa using e
    exact (List.pairwise_iff_getElem.1 hn) j i (by simp; omega) (by simpa using hi) (by omega) h1)
  unfold have_; rw [this]
/-- What Add does, if no row becomes too great. -/
theorem add_eq (xs : Sh) (a b c : Int) {L o : Ln} {ok : Bool} (hm : tier_Merge.f L [] = some (o, ok)) (hl : o.length ≤ 1000) (hx : mlen K6 (.int .i64) xs ≤ 1000)
    (h : placeB (a, (b, (c, (0, (0, 0))))) = true → ok = true → o.all (goodx a b c) = true → (((o.filter posx).map (lrow a b c)).map kq).Nodup ∧ ∀ q ∈ (o.filter posx).map (lrow a b c), 0 ≤ have_ xs (kq q) ∧ 0 ≤ q.2.2.2.2.2 ∧ have_ xs (kq q) + q.2.2.2.2.2 ≤ 1099511627776) :
    usage_Sheet_Add.f xs a b c L = some (bif placeB (a, (b, (c, (0, (0, 0))))) && (ok && o.all (goodx a b c)) then (((o.filter posx).map (lrow a b c)).foldl addRow xs, 0) else (xs, 1)) := by
  unfold usage_Sheet_Add.f
  rw [changes_eq xs a b c hm hl, Option.bind_some]
  cases hp : placeB (a, (b, (c, (0, (0, 0))))) with
  | false => rfl
  | true =>
    cases ok with
    | false => rfl
    | true =>
      cases hg : o.all (goodx a b c) with
      | false => rfl
      | true =>
        obtain ⟨h1, h2⟩ := h hp rfl hg
        have hR : ((o.filter posx).map (lrow a b c)).length ≤ 1000 := by
          rw [List.length_map]; exact Nat.le_trans (List.length_filter_le _ _) hl
        generalize (o.filter posx).map (lrow a b c) = R at h1 h2 hR ⊢
        simp only [Bool.and_self, cond_true]
        rw [show ((0 : Int) != 0) = false from rfl, cond_false]
        rw [show loopO (usage_Sheet_Add.l2 (xs, (R, 0))) (((mlen (.pair (.int .i64) (.pair (.int .i64) (.pair (.int .i64) (.pair (.int .i64) (.pair (.int .i64) (.int .i64)))))) (.int .i64) xs : Nat) : Int), false, 0) = _ from add_l2 xs R 0 h2 hR (by omega), Option.bind_some]
        have hf := List.length_filter_le (newR xs) R
        simp only [cond_false]
        rw [show decide (((mlen K6 (.int .i64) xs + (R.filter (newR xs)).length : Nat) : Int) > 4096) = false from decide_eq_false (by omega), cond_false]
        rw [add_l7 xs R 0 hR (fun i hi => by
          obtain ⟨g1, g2, g3⟩ := h2 R[i] (List.getElem_mem hi)
          rw [have_take h1 i hi]
          omega)]
        rfl
/-! ### all rows of a map, whatever the order of its entries -/
def entR (q : RR) : K6.Den × Int := (kq q, q.2.2.2.2.2)
theorem ent_map (R : List RR) : entM (V := .int .i64) (R.map entQ : Sh) = R.map entR := by
  induction R with
  | nil => rfl
  | cons q R ih => exact congrArg (entR q :: ·) ih
theorem keys_map {R : List RR} (hs : R.Pairwise lt6) : (keysM (R.map entQ : Sh)).Nodup := by
  show ((entM (R.map entQ : Sh)).map (·.1)).Nodup
  rw [ent_map, List.map_map]
  exact List.pairwise_map.2 (hs.imp fun {a b} h => lt6_kq h)
theorem all_gen (xs : Sh) (R : List RR) (hs : R.Pairwise lt6) (hl : R.length ≤ 1048576) (hx : xs.length ≤ 1048576) (hk : (keysM xs).Nodup) (hp : (entM xs).Perm (R.map entR)) : usage_Sheet_all.f xs = some (xs, R) := by
  unfold usage_Sheet_all.f
  rw [show Nat.ble (List.length xs) 1099511627776 = true from Nat.ble_eq_true_of_le (by omega), cond_true]
  refine anyOrd_of fun l hq => ?_
  have hq2 : l.Perm (R.map kq) := by
    refine hq.trans ?_
    have := hp.map (fun p : K6.Den × Int => p.1)
    rw [List.map_map] at this
    exact this
  rw [show sortM (T := K6) usage_Row_order.f l = some (R.map kq) from sort_keys R hs (by omega) l hq2, Option.bind_some]
  have hmg : ∀ q ∈ R, mget K6 (.int .i64) xs (kq q) = some q.2.2.2.2.2 := fun q hq => by
    rw [mget_mem k6 hk, hp.mem_iff]
    exact List.mem_map.2 ⟨q, hq, rfl⟩
  have hL : loopO (usage_Sheet_all.l3 xs (R.map kq)) (0, R.map kq) = some R := by
    refine Go.Pg.loop_up (fun i => ((i : Int), R.take i ++ (R.map kq).drop i)) R.length ?_ ?_ ?_
    · simp
    · intro i hi
      have hlen : (R.take i ++ (R.map kq).drop i).length = R.length := by simp; omega
      have hi2 : i < (R.take i ++ (R.map kq).drop i).length := by omega
      have hti : (R.take i).length = i := by simp; omega
      have hget : (R.take i ++ (R.map kq).drop i)[i] = kq R[i] := by
        rw [List.getElem_append_right (by omega)]
        simp [hti]
      have hset : (R.take i ++ (R.map kq).drop i).set i R[i] = R.take (i + 1) ++ (R.map kq).drop (i + 1) := by
        rw [List.set_append_right _ _ (by omega), hti, Nat.sub_self, List.drop_eq_getElem_cons (by simpa using hi), List.set_cons_zero, Go.Pg.take_succ R i hi, List.append_assoc]
        rfl
      have hm := hmg R[i] (List.getElem_mem hi)
      have hg := (Go.Pg.at_ (R.take i ++ (R.map kq).drop i) i hi2 (0, (0, (0, (0, (0, 0)))))).trans hget
      unfold usage_Sheet_all.l3
      simp only
      rw [show decide ((i : Int) < ((R.map kq).length : Int)) = true from decide_eq_true (by rw [List.length_map]; omega), cond_true, Go.Pg.ilt hi2, Go.Pg.nn, Bool.and_self, cond_true, cond_true, hg]
      have hv : ((kq R[i]).1, ((kq R[i]).2.1, ((kq R[i]).2.2.1, ((kq R[i]).2.2.2.1, ((kq R[i]).2.2.2.2.1, (mget K6 (.int .i64) xs (kq R[i])).getD (0 : Int)))))) = R[i] := by rw [hm]; rfl
      rw [Go.Pg.wrS i (by omega), Int.toNat_natCast]
      refine congrArg some (congrArg Sum.inl (Prod.ext rfl ?_))
      exact (congrArg (fun v => List.set (R.take i ++ (R.map kq).drop i) i v) hv).trans hset
    · unfold usage_Sheet_all.l3
      simp only
      rw [show decide ((R.length : Int) < ((R.map kq).length : Int)) = false from decide_eq_false (by rw [List.length_map]; omega), cond_false]
      simp
  rw [hL]
  rfl
theorem mlen_gen {xs : Sh} {R : List RR} (hp : (entM xs).Perm (R.map entR)) : mlen K6 (.int .i64) xs = R.length := by
  rw [Go.Pg.mlen_ent, hp.length_eq, List.length_map]
/-- blocks, together -/
def sumB : List RR → Int
  | [] => 0
  | q :: R => q.2.2.2.2.2 + sumB R
theorem pos_ord (a b c : Int) : ∀ (l : List (K6.Den × Int)) (s : Int), 0 ≤ s → s + 1099511627776 * l.length ≤ 1152921504606846976 → (∀ p ∈ l, (p.1.1 = a ∧ p.1.2.1 = b ∧ p.1.2.2.1 = c) ∧ 0 ≤ p.2 ∧ p.2 ≤ 1099511627776) → ordF (usage_Sheet_Position.l1 a b c) l s = some (s + sumL (l.map (·.2)))
  | [], s, _, _, _ => by
    show (match usage_Sheet_Position.l1 a b c none s with | some (.inr b) => some b | _ => none) = _
    show some s = _
    simp [sumL]
  | p :: l, s, h0, hb, h => by
    obtain ⟨⟨e1, e2, e3⟩, h1, h2⟩ := h p (by simp)
    simp only [List.length_cons] at hb
    have hs : usage_Sheet_Position.l1 a b c (some p) s = some (.inl (s + p.2)) := by
      unfold usage_Sheet_Position.l1
      simp only [optS, e1, e2, e3, beq_self_eq_true, cond_true, Option.bind_some]
      rw [Go.Pg.wr _ (by omega) (by omega)]
    simp only [ordF, hs]
    rw [pos_ord a b c l (s + p.2) (by omega) (by omega) (fun q hq => h q (by simp [hq]))]
    simp only [List.map_cons, sumL]
    congr 1
    omega
theorem position_gen (xs : Sh) (R : List RR) (a b c : Int) (hl : R.length ≤ 1000) (hp : (entM xs).Perm (R.map entR)) (h : ∀ q ∈ R, (q.1 = a ∧ q.2.1 = b ∧ q.2.2.1 = c) ∧ 0 ≤ q.2.2.2.2.2 ∧ q.2.2.2.2.2 ≤ 1099511627776) : usage_Sheet_Position.f xs a b c = some (xs, sumL (R.map (·.2.2.2.2.2))) := by
  unfold usage_Sheet_Position.f
  rw [show Nat.beq (List.length xs) (List.length xs) = true from Nat.beq_refl _, cond_true]
  refine anyOrd_of fun l hq => ?_
  have hq2 : l.Perm (R.map entR) := hq.trans hp
  have hll := hq2.length_eq
  rw [List.length_map] at hll
  have := pos_ord a b c l 0 (by omega) (by omega) (fun p hp' => by
    obtain ⟨q, hq, rfl⟩ := List.mem_map.1 (hq2.mem_iff.1 hp')
    exact h q hq)
  rw [show ordF (usage_Sheet_Position.l1 a b c) l 0 = _ from this, Option.bind_some, Int.zero_add]
  have hm := (hq2.map (fun p : K6.Den × Int => p.2))
  rw [List.map_map] at hm
  rw [sumL_perm hm]
  rfl
end Go.Proofs.Ytijpigojhildgaa.Pure
