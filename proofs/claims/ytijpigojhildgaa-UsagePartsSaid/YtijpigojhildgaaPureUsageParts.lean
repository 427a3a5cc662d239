/- The plain law of UsageParts: what the law computes is true, whatever the input. -/
import Derived.Test.YtijpigojhildgaaDc
import Derived.Test.YtijpigojhildgaaT6d
namespace Go.Proofs.Ytijpigojhildgaa.Pure
open Go.Vk Go.Am Go.Pg Go.Sort Go.Proofs Go.Proofs.Ytijpigojhildgaa.Y
set_option linter.unusedVariables false
set_option linter.unusedSimpArgs false
def negx (x : L3) : Bool := decide (x.2.1 < 0)
theorem neg_loop (L : Ln) (hl : L.length ≤ 1000) : ∀ (m k : Nat), k + m = L.length → loopO (purserlaw20_UsageParts.l2 L) (k : Int) = some (bif (L.drop k).any negx then .inl true else .inr ())
  | 0, k, h => by
    obtain rfl : k = L.length := by omega
    rw [loopO_eq]
    have : purserlaw20_UsageParts.l2 L (L.length : Int) = some (.inr (.inr ())) := by unfold purserlaw20_UsageParts.l2; simp
    rw [this]
    simp
  | m + 1, k, h => by
    have hk : k < L.length := by omega
    rw [loopO_eq, List.drop_eq_getElem_cons hk]
    have hs : purserlaw20_UsageParts.l2 L (k : Int) = bif negx L[k] then some (.inr (.inl true)) else some (.inl ((k + 1 : Nat) : Int)) := by
      unfold purserlaw20_UsageParts.l2
      rw [Go.Pg.ilt hk, Go.Pg.nn, cond_true, Bool.and_self, cond_true, Go.Pg.at_ L k hk, uses_eq, Go.Pg.wrS k (by omega)]
      rfl
    rw [hs]
    cases hg : negx L[k] with
    | true => simp only [cond_true, List.any_cons, hg, Bool.true_or]; rfl
    | false =>
      simp only [cond_false, List.any_cons, hg, Bool.false_or]
      exact neg_loop L hl m (k + 1) (by omega)
def condL (a b c : Int) (o : Ln) (ok : Bool) : Bool := placeB (a, (b, (c, (0, (0, 0))))) && (ok && o.all (goodx a b c))
theorem good_row {a b c : Int} {o : Ln} (h : o.all (goodx a b c) = true) : ∀ q ∈ (o.filter posx).map (lrow a b c), placeB q = true ∧ 1 ≤ q.2.2.2.2.2 ∧ q.2.2.2.2.2 ≤ 1099511627776 := by
  intro q hq
  obtain ⟨x, hx, rfl⟩ := List.mem_map.1 hq
  obtain ⟨h1, h2⟩ := List.mem_filter.1 hx
  have h3 := List.all_eq_true.1 h x h1
  have h4 := of_decide_eq_true h2
  unfold goodx inB at h3
  simp only [Bool.and_eq_true, decide_eq_true_eq] at h3
  exact ⟨h3.1, by show (1 : Int) ≤ x.2.1; omega, h3.2.2⟩
theorem add_nil (a b c : Int) {L o : Ln} {ok : Bool} (hm : tier_Merge.f L [] = some (o, ok)) (hI : IsM L o ok) (hL : ∀ x ∈ L, 0 ≤ x.2.1) (hl : L.length ≤ 1000) :
    usage_Sheet_Add.f ([] : Sh) a b c L = some (bif condL a b c o ok then (((o.filter posx).map (lrow a b c)).map entQ, 0) else ([], 1)) := by
  have hlo : o.length ≤ 1000 := by
    cases ok with
    | true => exact Nat.le_trans (out_len hI) hl
    | false => rw [(hI.no rfl).1]; simp
  rw [add_eq [] a b c hm hlo (by decide) (fun hp hok hg => by
    subst hok
    have hr := rows_of (a := a) (b := b) (c := c) hI hL
    refine ⟨nodup_kq hr.sorted, fun q hq => ?_⟩
    obtain ⟨g1, g2, g3⟩ := good_row hg q hq
    rw [have_none (xs := ([] : Sh)) rfl]
    omega)]
  unfold condL
  cases hc : placeB (a, (b, (c, (0, (0, 0))))) && (ok && o.all (goodx a b c)) with
  | false => rfl
  | true =>
    simp only [Bool.and_eq_true] at hc
    obtain ⟨_, hok, _⟩ := hc
    subst hok
    have hr := rows_of (a := a) (b := b) (c := c) hI hL
    have := add_none _ [] (by simpa using hr.sorted)
    simp only [List.map_nil, List.nil_append] at this
    simp only [cond_true]
    rw [this]
theorem mset_len : ∀ (xs : Sh) (k : K6.Den) (v : Int), List.length (mset K6 (.int .i64) xs k v) ≤ List.length xs + 1
  | [], k, v => Nat.le_refl _
  | none :: l, k, v => by simp only [mset, List.length_cons]; have := mset_len l k v; omega
  | some p :: l, k, v => by
    simp only [mset]
    cases eqT K6 k p.1 with
    | true => simp
    | false => simp only [cond_false, List.length_cons]; have := mset_len l k v; omega
theorem fold_len : ∀ (R : List RR) (xs : Sh), List.length (R.foldl addRow xs) ≤ List.length xs + R.length
  | [], xs => Nat.le_refl _
  | q :: R, xs => by
    have h1 := fold_len R (addRow xs q)
    have h2 : List.length (addRow xs q) ≤ List.length xs + 1 := mset_len _ _ _
    simp only [List.foldl_cons, List.length_cons]
    omega
theorem UsageParts (a0 : Bool × List Int × List (Int × Int × Int)) (a1 : Int) (w0 : wfTy (.pair .bool (.pair (.arr .i64 3) (.slice (.pair (.int .i64) (.pair (.int .i64) (.int .i64)))))) a0) (w1 : wfTy (.int .i64) a1) : purserlaw20_UsageParts.f a0 a1 = some true := by
  unfold purserlaw20_UsageParts.f purserlaw20_Act_lines.f
  simp only
  rw [show (decide ((0 : Int) ≤ 0) && (decide (0 ≤ (if (6 : Int) < (a0.2.2.length : Int) then 6 else (a0.2.2.length : Int))) && decide ((if (6 : Int) < (a0.2.2.length : Int) then 6 else (a0.2.2.length : Int)) ≤ (a0.2.2.length : Int)))) = true from cut_ok a0.2.2 6, cond_true]
  rw [show ((a0.2.2.take (if (6 : Int) < (a0.2.2.length : Int) then 6 else (a0.2.2.length : Int)).toNat).drop (0 : Int).toNat) = a0.2.2.take 6 from cut_eq a0.2.2 6]
  have hlen : (a0.2.2.take 6).length ≤ 6 := by rw [List.length_take]; omega
  have hi : ∀ x ∈ a0.2.2.take 6, i64 x.2.1 := fun x hx => by
    have := (w0.2.2.2 x (List.mem_of_mem_take hx)).2.1
    exact wf_i64 this
  generalize a0.2.2.take 6 = L at hlen hi ⊢
  generalize a0.2.1.getD 0 0 = a
  generalize a0.2.1.getD 1 0 = b
  generalize a0.2.1.getD 2 0 = c
  rw [show decide (([] : List (Int × Int × Int)).length + L.length ≤ 1099511627776) = true from decide_eq_true (by simp; omega), cond_true, List.nil_append, Option.bind_some]
  rw [show loopO (purserlaw20_UsageParts.l2 L) 0 = _ from neg_loop L (by omega) L.length 0 (by omega), Option.bind_some, List.drop_zero]
  cases hneg : L.any negx with
  | true => rfl
  | false =>
  simp only [cond_false]
  have hL : ∀ x ∈ L, 0 ≤ x.2.1 := fun x hx => by
    have := List.any_eq_false.1 hneg x hx
    unfold negx at this
    simp only [decide_eq_true_eq] at this
    omega
  have hlw : IntKind.u64.wrap (IntKind.i64.wrap ((L.length : Int) + 1)) = (L.length : Int) + 1 := by
    rw [Go.Pg.wr _ (by omega) (by omega), IntKind.wrap_u64]; omega
  obtain ⟨K, hK, hKl⟩ : ∃ K : Nat, IntKind.i64.wrap (Int.tmod (IntKind.u64.wrap a1) (IntKind.u64.wrap (IntKind.i64.wrap ((L.length : Int) + 1)))) = (K : Int) ∧ K ≤ L.length := by
    have h0 : 0 ≤ IntKind.u64.wrap a1 := wrap_u64_nonneg a1
    rw [hlw, Int.tmod_eq_emod_of_nonneg h0]
    have h1 := Int.emod_nonneg (IntKind.u64.wrap a1) (show ((L.length : Int) + 1) ≠ 0 by omega)
    have h2 := Int.emod_lt_of_pos (IntKind.u64.wrap a1) (show (0 : Int) < (L.length : Int) + 1 by omega)
    rw [Go.Pg.wr _ (by omega) (by omega)]
    exact ⟨(IntKind.u64.wrap a1 % ((L.length : Int) + 1)).toNat, by omega, by omega⟩
  rw [hK]
  rw [show (IntKind.u64.wrap (IntKind.i64.wrap ((L.length : Int) + 1)) != 0) = true by rw [hlw]; simp; omega, cond_true]
  obtain ⟨o, ok, hm, hI⟩ := own_merge L [] (by simp; omega) (by simpa using hi)
  rw [List.append_nil] at hI
  rw [add_nil a b c hm hI hL (by omega), Option.bind_some]
  rw [show (decide ((0 : Int) ≤ 0) && (decide (0 ≤ (K : Int)) && decide ((K : Int) ≤ (L.length : Int)))) = true by simp; omega, cond_true]
  rw [show ((L.take (K : Int).toNat).drop (0 : Int).toNat) = L.take K by simp]
  have hA : ∀ x ∈ L.take K, 0 ≤ x.2.1 := fun x hx => hL x (List.mem_of_mem_take hx)
  have hB : ∀ x ∈ L.drop K, 0 ≤ x.2.1 := fun x hx => hL x (List.mem_of_mem_drop hx)
  have hAl : (L.take K).length ≤ 6 := by rw [List.length_take]; omega
  have hBl : (L.drop K).length ≤ 6 := by rw [List.length_drop]; omega
  obtain ⟨oA, okA, hmA, hIA⟩ := own_merge (L.take K) [] (by simp; omega) (by simpa using fun x hx => hi x (List.mem_of_mem_take hx))
  obtain ⟨oB, okB, hmB, hIB⟩ := own_merge (L.drop K) [] (by simp; omega) (by simpa using fun x hx => hi x (List.mem_of_mem_drop hx))
  rw [List.append_nil] at hIA hIB
  rw [add_nil a b c hmA hIA hA (by omega), Option.bind_some]
  rw [uses_eq, Option.bind_some]
  cases hc : condL a b c o ok with
  | false => rfl
  | true =>
  cases hcA : condL a b c oA okA with
  | false => rfl
  | true =>
  simp only [cond_true]
  rw [show (((0 : Int) != 0)) = false from rfl]
  simp only [Bool.not_false, Bool.not_true, cond_true, cond_false, Option.bind_some]
  unfold condL at hc hcA
  simp only [Bool.and_eq_true] at hc hcA
  obtain ⟨hp, hok, hg⟩ := hc
  obtain ⟨_, hokA, hgA⟩ := hcA
  subst hok hokA
  rw [show (decide ((0 : Int) ≤ (K : Int)) && (decide ((K : Int) ≤ (L.length : Int)) && decide ((L.length : Int) ≤ (L.length : Int)))) = true by simp; omega, cond_true]
  rw [show ((L.take (L.length : Int).toNat).drop (K : Int).toNat) = L.drop K by simp]
  have hr := rows_of (a := a) (b := b) (c := c) hI hL
  have hrA := rows_of (a := a) (b := b) (c := c) hIA hA
  have hsum : ∀ k, gs L k = gs (L.take K) k + gs (L.drop K) k := fun k => by rw [← gs_app, List.take_append_drop]
  -- what is known of the keys of the second part
  have hkey : ∀ y ∈ L.drop K, goodx a b c ((kx y).1, gs L (kx y), (kx y).2.2) = true := fun y hy => by
    obtain ⟨_, h2, _⟩ := hI.yes rfl
    exact List.all_eq_true.1 hg _ ((h2 _).2 ⟨y, List.mem_of_mem_drop hy, rfl, rfl⟩)
  have hbound : ∀ y ∈ L.drop K, 0 ≤ gs (L.drop K) (kx y) ∧ gs (L.take K) (kx y) + gs (L.drop K) (kx y) ≤ 1099511627776 := fun y hy => by
    have h1 := hkey y hy
    unfold goodx inB at h1
    simp only [Bool.and_eq_true, decide_eq_true_eq] at h1
    have h2 := gs_nn hB (kx y)
    have h3 := hsum (kx y)
    exact ⟨h2, by omega⟩
  have hokB : okB = true := by
    cases okB with
    | true => rfl
    | false =>
      obtain ⟨_, y, hy, hn⟩ := hIB.no rfl
      obtain ⟨h1, h2⟩ := hbound y hy
      have h3 := gs_nn hA (kx y)
      exact absurd ⟨by omega, by omega⟩ hn
  subst hokB
  have hgB : oB.all (goodx a b c) = true := by
    rw [List.all_eq_true]
    intro x hx
    obtain ⟨_, h2, _⟩ := hIB.yes rfl
    obtain ⟨y, hy, e1, e2⟩ := (h2 x).1 hx
    have h3 := hkey y hy
    obtain ⟨h4, h5⟩ := hbound y hy
    have h6 := gs_nn hA (kx y)
    rw [e1] at h3 h4 h5 h6
    unfold goodx inB placeB inB lrow at h3 ⊢
    simp only [kx] at h3
    simp only [Bool.and_eq_true, decide_eq_true_eq] at h3 ⊢
    rw [e2]
    obtain ⟨⟨p1, p2, p3, ⟨p4, p5⟩, p6, p7⟩, _⟩ := h3
    exact ⟨⟨p1, p2, p3, ⟨of_decide_eq_true p4, of_decide_eq_true p5⟩, of_decide_eq_true p6, of_decide_eq_true p7⟩, h4, by omega⟩
  have hrB := rows_of (a := a) (b := b) (c := c) hIB hB
  have hRA : (((oA.filter posx).map (lrow a b c))).length ≤ 6 := by
    rw [List.length_map]; exact Nat.le_trans (List.length_filter_le _ _) (Nat.le_trans (out_len hIA) hAl)
  have hRB : (((oB.filter posx).map (lrow a b c))).length ≤ 6 := by
    rw [List.length_map]; exact Nat.le_trans (List.length_filter_le _ _) (Nat.le_trans (out_len hIB) hBl)
  have hR : (((o.filter posx).map (lrow a b c))).length ≤ 6 := by
    rw [List.length_map]; exact Nat.le_trans (List.length_filter_le _ _) (Nat.le_trans (out_len hI) hlen)
  have hadd := add_eq (((oA.filter posx).map (lrow a b c)).map entQ) a b c hmB (Nat.le_trans (out_len hIB) (by omega)) (by rw [Go.Proofs.Ytijpigojhildgaa.Pure.mlen_ent]; omega) (fun _ _ _ => by
    refine ⟨nodup_kq hrB.sorted, fun q hq => ?_⟩
    obtain ⟨m1, m2, m3⟩ := (hrB.mem q).1 hq
    rw [have_rows hrA hA q m1, m2]
    have h0 := gs_nn hA (kR q)
    obtain ⟨y, hy, e⟩ := gs_pos (L := L.drop K) (k := kR q) (by omega)
    obtain ⟨h4, h5⟩ := hbound y hy
    rw [e] at h4 h5
    omega)
  rw [hp, hgB] at hadd
  simp only [Bool.and_self, cond_true] at hadd
  rw [hadd, Option.bind_some]
  have hrow := good_row hg
  have hgB' := hrow
  clear hadd
  have hents := parts_ent hA hB (by rw [List.take_append_drop]; exact hr) hrA hrB
  generalize (o.filter posx).map (lrow a b c) = R at hr hR hrow hents ⊢
  generalize (oA.filter posx).map (lrow a b c) = RA at hrA hRA hents ⊢
  generalize (oB.filter posx).map (lrow a b c) = RB at hrB hRB hents ⊢
  have hkeys : (keysM (RB.foldl addRow (RA.map entQ))).Nodup := keys_add RB _ (keys_map hrA.sorted)
  have hfl := fold_len RB (RA.map entQ)
  rw [List.length_map] at hfl
  generalize hM : RB.foldl addRow (RA.map entQ) = M at hents hkeys hfl ⊢
  have hok : ∀ r ∈ R, ∀ x ∈ nums r, okN x := fun r hr' x hx => by
    obtain ⟨h1, h2, h3⟩ := hrow r hr'
    unfold placeB inB at h1
    simp only [Bool.and_eq_true, decide_eq_true_eq] at h1
    unfold nums at hx
    simp only [List.mem_cons, List.mem_nil_iff, or_false] at hx
    unfold okN
    rcases hx with rfl | rfl | rfl | rfl | rfl | rfl <;> omega
  have hW1 := swrite_eq (R.map entQ) R (all_rows R hr.sorted (by omega)) (Go.Proofs.Ytijpigojhildgaa.Pure.mlen_ent R) (by omega) hok
  have hW2 := swrite_eq M R (all_gen M R hr.sorted (by omega) (by omega) hkeys hents) (mlen_gen hents) (by omega) hok
  have hpos : ∀ q ∈ R, (q.1 = a ∧ q.2.1 = b ∧ q.2.2.1 = c) ∧ 0 ≤ q.2.2.2.2.2 ∧ q.2.2.2.2.2 ≤ 1099511627776 := fun q hq => by
    obtain ⟨_, h2, h3⟩ := hrow q hq
    exact ⟨((hr.mem q).1 hq).1, by omega, h3⟩
  have hP1 := position_gen (R.map entQ) R a b c (by omega) (by rw [ent_map]) hpos
  have hP2 := position_gen M R a b c (by omega) hents hpos
  rw [show usage_Sheet_Write.f (R.map entQ) = _ from hW1, Option.bind_some]
  rw [show usage_Sheet_Write.f M = _ from hW2, Option.bind_some]
  simp only [beq_self_eq_true, cond_true]
  rw [show usage_Sheet_Position.f (R.map entQ) a b c = _ from hP1, Option.bind_some]
  rw [show usage_Sheet_Position.f M a b c = _ from hP2, Option.bind_some]
  simp
end Go.Proofs.Ytijpigojhildgaa.Pure
