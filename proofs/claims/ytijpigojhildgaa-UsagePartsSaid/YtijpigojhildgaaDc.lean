/- Plain laws of the sheet of usage: both ways have the same rows. No statement of its own. -/
import Derived.Test.YtijpigojhildgaaDb

namespace Go.Proofs.Ytijpigojhildgaa.Pure
open Go.Vk Go.Am Go.Pg Go.Sort Go.Proofs Go.Proofs.Ytijpigojhildgaa.Y
set_option linter.unusedVariables false
set_option linter.unusedSimpArgs false
/-! ### sums of parts -/
theorem sumL_app : ∀ (a b : List Int), sumL (a ++ b) = sumL a + sumL b
  | [], b => by simp [sumL]
  | x :: a, b => by simp only [List.cons_append, sumL, sumL_app a b]; omega
theorem gs_app (A B : Ln) (k : L3) : gs (A ++ B) k = gs A k + gs B k := by
  unfold gs bl grp
  rw [List.filter_append, List.map_append, sumL_app]
theorem sumL_nn : ∀ {l : List Int}, (∀ x ∈ l, 0 ≤ x) → 0 ≤ sumL l
  | [], _ => by simp [sumL]
  | x :: l, h => by
    have h1 := h x (by simp)
    have h2 := sumL_nn (l := l) fun y hy => h y (by simp [hy])
    simp only [sumL]; omega
theorem gs_nn {L : Ln} (h : ∀ x ∈ L, 0 ≤ x.2.1) (k : L3) : 0 ≤ gs L k := by
  refine sumL_nn fun x hx => ?_
  obtain ⟨y, hy, rfl⟩ := List.mem_map.1 hx
  exact h y (List.mem_filter.1 hy).1
theorem gs_pos {L : Ln} {k : L3} (h : 0 < gs L k) : ∃ y ∈ L, kx y = k := by
  apply Classical.byContradiction
  intro hn
  have : grp L k = [] := grp_none fun y hy e => hn ⟨y, hy, e⟩
  unfold gs at h
  rw [this] at h
  simp [bl, sumL] at h
/-! ### the rows of lines -/
def kR (q : RR) : L3 := (q.2.2.2.1, 0, q.2.2.2.2.1)
structure RowsOf (a b c : Int) (L : Ln) (R : List RR) : Prop where
  sorted : R.Pairwise lt6
  mem : ∀ q, q ∈ R ↔ (q.1 = a ∧ q.2.1 = b ∧ q.2.2.1 = c) ∧ q.2.2.2.2.2 = gs L (kR q) ∧ 0 < q.2.2.2.2.2
theorem out_len {L o : Ln} (h : IsM L o true) : o.length ≤ L.length := by
  obtain ⟨h1, h2, _⟩ := h.yes rfl
  have hn : (o.map kx).Nodup := List.pairwise_map.2 (h1.imp fun {a b} e => ltK_kx e)
  have := List.Nodup.length_le_of_subset hn (l₂ := L.map kx) fun k hk => by
    obtain ⟨x, hx, rfl⟩ := List.mem_map.1 hk
    obtain ⟨y, hy, e, _⟩ := (h2 x).1 hx
    exact List.mem_map.2 ⟨y, hy, e⟩
  simpa using this
theorem rows_of {a b c : Int} {L o : Ln} (h : IsM L o true) (hL : ∀ x ∈ L, 0 ≤ x.2.1) : RowsOf a b c L ((o.filter posx).map (lrow a b c)) := by
  obtain ⟨h1, h2, _⟩ := h.yes rfl
  refine ⟨?_, fun q => ?_⟩
  · rw [List.pairwise_map]
    refine (h1.sublist List.filter_sublist).imp fun {x y} e => ?_
    exact .inr ⟨rfl, .inr ⟨rfl, .inr ⟨rfl, e⟩⟩⟩
  · simp only [List.mem_map, List.mem_filter]
    constructor
    · rintro ⟨x, ⟨hx, hp⟩, rfl⟩
      obtain ⟨y, hy, e1, e2⟩ := (h2 x).1 hx
      exact ⟨⟨rfl, rfl, rfl⟩, e2, of_decide_eq_true hp⟩
    · rintro ⟨⟨rfl, rfl, rfl⟩, e2, e3⟩
      obtain ⟨q1, q2, q3, q4, q5, q6⟩ := q
      simp only at e2 e3
      refine ⟨(q4, q6, q5), ⟨(h2 _).2 ?_, decide_eq_true e3⟩, rfl⟩
      obtain ⟨y, hy, e⟩ := gs_pos (L := L) (k := kR (q1, q2, q3, q4, q5, q6)) (by rw [← e2]; exact e3)
      exact ⟨y, hy, e, e2⟩
theorem nodup_kq {R : List RR} (h : R.Pairwise lt6) : (R.map kq).Nodup := List.pairwise_map.2 (h.imp fun {a b} e => lt6_kq e)
theorem kq_inj {a b : RR} (h : kq a = kq b) : a.1 = b.1 ∧ a.2.1 = b.2.1 ∧ a.2.2.1 = b.2.2.1 ∧ kR a = kR b := by
  have e : (a.1, (a.2.1, (a.2.2.1, (a.2.2.2.1, (a.2.2.2.2.1, (0 : Int)))))) = (b.1, (b.2.1, (b.2.2.1, (b.2.2.2.1, (b.2.2.2.2.1, (0 : Int)))))) := h
  simp only [Prod.mk.injEq] at e
  obtain ⟨e1, e2, e3, e4, e5, _⟩ := e
  exact ⟨e1, e2, e3, by unfold kR; rw [e4, e5]⟩
/-- what a sheet of rows has -/
theorem have_rows {a b c : Int} {L : Ln} {R : List RR} (h : RowsOf a b c L R) (hL : ∀ x ∈ L, 0 ≤ x.2.1) (q : RR) (hq : q.1 = a ∧ q.2.1 = b ∧ q.2.2.1 = c) : have_ (R.map entQ) (kq q) = gs L (kR q) := by
  by_cases hp : 0 < gs L (kR q)
  · have hm : (q.1, q.2.1, q.2.2.1, q.2.2.2.1, q.2.2.2.2.1, gs L (kR q)) ∈ R := (h.mem _).2 ⟨hq, rfl, hp⟩
    exact have_some (mget_ent R h.sorted _ hm)
  · have h0 := gs_nn hL (kR q)
    rw [have_none (mget_none k6 fun hm => ?_)]
    · omega
    · have hm : kq q ∈ (entM (R.map entQ : Sh)).map (·.1) := hm
      rw [ent_map, List.map_map] at hm
      obtain ⟨p, hp', e⟩ := List.mem_map.1 hm
      obtain ⟨e1, e2, e3, e4⟩ := kq_inj (a := p) (b := q) e
      obtain ⟨_, h2, h3⟩ := (h.mem p).1 hp'
      rw [e4] at h2
      omega
theorem add_none : ∀ (R L : List RR), (L ++ R).Pairwise lt6 → R.foldl addRow (L.map entQ) = (L ++ R).map entQ
  | [], L, _ => by simp
  | q :: R, L, h => by
    have hn : ∀ p ∈ L, kq p ≠ kq q := fun p hp => lt6_kq ((List.pairwise_append.1 h).2.2 p hp q (by simp))
    rw [List.foldl_cons]
    have hg : mget K6 (.int .i64) (L.map entQ) (kq q) = none := mget_none k6 fun hm => by
      have hm : kq q ∈ (entM (L.map entQ : Sh)).map (·.1) := hm
      rw [ent_map, List.map_map] at hm
      obtain ⟨p, hp', e⟩ := List.mem_map.1 hm
      exact hn p hp' e
    have e : addRow (L.map entQ) q = (L ++ [q]).map entQ := by
      show mset K6 (.int .i64) (L.map entQ) (kq q) (have_ (L.map entQ) (kq q) + q.2.2.2.2.2) = _
      rw [have_none hg, Int.zero_add, mset_new L _ _ hn, List.map_append]
      rfl
    rw [e, add_none R (L ++ [q]) (by simpa using h)]
    simp
/-- Both ways have the same entries. -/
theorem parts_ent {a b c : Int} {A B : Ln} {R RA RB : List RR} (hA : ∀ x ∈ A, 0 ≤ x.2.1) (hB : ∀ x ∈ B, 0 ≤ x.2.1) (h : RowsOf a b c (A ++ B) R) (ha : RowsOf a b c A RA) (hb : RowsOf a b c B RB) :
    (entM (RB.foldl addRow (RA.map entQ))).Perm (R.map entR) := by
  have hk1 : (keysM (RB.foldl addRow (RA.map entQ))).Nodup := keys_add RB _ (keys_map ha.sorted)
  have hk2 := keys_map h.sorted
  rw [← ent_map]
  refine mget_ext k6 hk1 hk2 fun k => ?_
  obtain ⟨g1, g2⟩ := mget_add RB (RA.map entQ) k (nodup_kq hb.sorted)
  have hmem : ∀ {R' : List RR} {v : Int}, R'.Pairwise lt6 → (mget K6 (.int .i64) (R'.map entQ) k = some v ↔ ∃ q ∈ R', kq q = k ∧ q.2.2.2.2.2 = v) := by
    intro R' v hs
    rw [mget_mem k6 (keys_map hs), ent_map]
    simp only [List.mem_map, entR, Prod.mk.injEq]
  by_cases hin : ∃ q ∈ RB, kq q = k
  · obtain ⟨q, hq, rfl⟩ := hin
    rw [g1 q hq rfl]
    obtain ⟨m1, m2, m3⟩ := (hb.mem q).1 hq
    rw [have_rows ha hA q m1]
    symm
    rw [hmem h.sorted]
    have h0 := gs_nn hA (kR q)
    refine ⟨(q.1, q.2.1, q.2.2.1, q.2.2.2.1, q.2.2.2.2.1, gs A (kR q) + q.2.2.2.2.2), (h.mem _).2 ⟨m1, ?_, ?_⟩, rfl, rfl⟩
    · show gs A (kR q) + q.2.2.2.2.2 = gs (A ++ B) (kR q)
      rw [gs_app, m2]
    · show 0 < gs A (kR q) + q.2.2.2.2.2
      omega
  · rw [g2 fun q hq e => hin ⟨q, hq, e⟩]
    have hz : ∀ q : RR, (q.1 = a ∧ q.2.1 = b ∧ q.2.2.1 = c) → kq q = k → gs B (kR q) = 0 := by
      intro q m1 e
      apply Classical.byContradiction
      intro hne
      have h0 := gs_nn hB (kR q)
      exact hin ⟨(q.1, q.2.1, q.2.2.1, q.2.2.2.1, q.2.2.2.2.1, gs B (kR q)), (hb.mem _).2 ⟨m1, rfl, by show 0 < gs B (kR q); omega⟩, e⟩
    cases hg : mget K6 (.int .i64) (RA.map entQ) k with
    | some v =>
      obtain ⟨q, hq, e, rfl⟩ := (hmem ha.sorted).1 hg
      obtain ⟨m1, m2, m3⟩ := (ha.mem q).1 hq
      symm
      rw [hmem h.sorted]
      exact ⟨q, (h.mem q).2 ⟨m1, by rw [gs_app, hz q m1 e, m2]; omega, m3⟩, e, rfl⟩
    | none =>
      cases hg2 : mget K6 (.int .i64) (R.map entQ) k with
      | none => rfl
      | some v =>
        obtain ⟨q, hq, e, rfl⟩ := (hmem h.sorted).1 hg2
        obtain ⟨m1, m2, m3⟩ := (h.mem q).1 hq
        rw [gs_app, hz q m1 e, Int.add_zero] at m2
        have := (hmem ha.sorted (v := q.2.2.2.2.2)).2 ⟨q, (ha.mem q).2 ⟨m1, m2, m3⟩, e, rfl⟩
        rw [hg] at this
        cases this
end Go.Proofs.Ytijpigojhildgaa.Pure
