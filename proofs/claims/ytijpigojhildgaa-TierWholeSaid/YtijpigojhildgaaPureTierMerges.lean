/- The plain law of TierMerges: what the law computes is true, whatever the input. -/
import Derived.Test.YtijpigojhildgaaMb
namespace Go.Proofs.Ytijpigojhildgaa.Pure
open Go.Vk Go.Am Go.Sort Go.Proofs Go.Proofs.Ytijpigojhildgaa.Y
set_option linter.unusedVariables false
set_option linter.unusedSimpArgs false
theorem gs_cons (y : L3) (L : Ln) (k : L3) : gs (y :: L) k = (if kx y = k then y.2.1 else 0) + gs L k := by
  unfold gs grp
  by_cases h : kx y = k <;> simp [h, bl, sumL]
theorem ind_sum (k : L3) (v : Int) : ∀ (ks : List L3), ks.Nodup → sumL (ks.map fun q => if k = q then v else 0) = if k ∈ ks then v else 0
  | [], _ => rfl
  | q :: ks, h => by
    rw [List.nodup_cons] at h
    simp only [List.map_cons, sumL, ind_sum k v ks h.2, List.mem_cons]
    by_cases e : k = q
    · subst e; simp [h.1]
    · simp [e]
theorem sumL_add (f g : L3 → Int) : ∀ (ks : List L3), sumL (ks.map fun q => f q + g q) = sumL (ks.map f) + sumL (ks.map g)
  | [] => rfl
  | q :: ks => by simp only [List.map_cons, sumL, sumL_add f g ks]; omega
theorem sumL_zero : ∀ (ks : List L3), sumL (ks.map fun q => gs [] q) = 0
  | [] => rfl
  | q :: ks => by
    have := sumL_zero ks
    simp only [List.map_cons, sumL, this]
    rfl
theorem groups_sum : ∀ (L : Ln) (ks : List L3), ks.Nodup → (∀ y ∈ L, kx y ∈ ks) → sumL (ks.map (gs L)) = bl L
  | [], ks, _, _ => sumL_zero ks
  | y :: L, ks, h, hk => by
    have e : ks.map (gs (y :: L)) = ks.map fun q => (if kx y = q then y.2.1 else 0) + gs L q := List.map_congr_left fun q _ => gs_cons y L q
    rw [e, sumL_add, ind_sum _ _ _ h, if_pos (hk y (by simp)), groups_sum L ks h (fun z hz => hk z (by simp [hz]))]
    rfl
theorem IsM.total {L o : Ln} (h : IsM L o true) : bl o = bl L := by
  obtain ⟨h1, h2, _⟩ := h.yes rfl
  have hk : (o.map kx).Nodup := by
    rw [List.nodup_iff_pairwise_ne, List.pairwise_map]
    exact h1.imp fun h => ltK_kx h
  have := groups_sum L (o.map kx) hk (fun y hy => by
    have : (y.1, gs L (kx y), y.2.2) ∈ o := (h2 _).2 ⟨y, hy, rfl, rfl⟩
    exact List.mem_map.2 ⟨_, this, rfl⟩)
  rw [← this, List.map_map]
  unfold bl
  congr 1
  refine List.map_congr_left fun x hx => ?_
  obtain ⟨_, _, _, q⟩ := (h2 x).1 hx
  exact q
theorem same_eq (l : Ln) (hl : l.length ≤ 1048576) : purserref10_Same.f l l = some true := by
  unfold purserref10_Same.f
  rw [Go.Pg.loop_up (f := purserref10_Same.l1 l l) (s0 := 0) (fun i => (i : Int)) l.length (b := .inr ()) rfl ?_ ?_]
  · simp
  · intro i hi
    simp only [purserref10_Same.l1, Go.Pg.ilt hi, Go.Pg.nn, cond_true, Bool.and_self, Go.Pg.wrS i (by omega), beq_self_eq_true, Bool.not_true, cond_false]
  · simp only [purserref10_Same.l1, Go.Pg.ige, cond_false]
theorem TierMerges (a b : Ln) (h0 : wfTy (.slice (.pair (.int .i64) (.pair (.int .i64) (.int .i64)))) a) (h1 : wfTy (.slice (.pair (.int .i64) (.pair (.int .i64) (.int .i64)))) b) : purserlaw10_TierMerges.f a b = some true := by
  have w : ∀ (l : Ln), wfTy (.slice (.pair (.int .i64) (.pair (.int .i64) (.int .i64)))) l → ∀ x ∈ l.take 12, i64 x.2.1 ∧ i64 x.2.2 := fun l h x hx => by
    obtain ⟨q1, q2, q3⟩ := h.2 x (List.mem_of_mem_take hx)
    exact ⟨Go.Pg.wf_i64 q2, Go.Pg.wf_i64 q3⟩
  have wa := w a h0
  have wb := w b h1
  have la : (a.take 12).length ≤ 12 := by simp; omega
  have lb : (b.take 12).length ≤ 12 := by simp; omega
  unfold purserlaw10_TierMerges.f
  rw [few_eq, few_eq]
  simp only [Option.bind_some]
  generalize a.take 12 = A at *
  generalize b.take 12 = B at *
  have hw : ∀ x ∈ A ++ B, i64 x.2.1 ∧ i64 x.2.2 := fun x hx => (List.mem_append.1 hx).elim (wa x) (wb x)
  have hw' : ∀ x ∈ B ++ A, i64 x.2.1 := fun x hx => (List.mem_append.1 hx).elim (fun h => (wb x h).1) (fun h => (wa x h).1)
  have hl : (A ++ B).length ≤ 24 := by simp; omega
  have hl' : (B ++ A).length ≤ 24 := by simp; omega
  obtain ⟨o, ok, e1, m1⟩ := own_merge A B (by omega) (fun x hx => (hw x hx).1)
  obtain ⟨o2, ok2, e2, m2, ol⟩ := ref_merge A B (by omega) (fun x hx => (hw x hx).1)
  obtain ⟨o3, ok3, e3, m3⟩ := own_merge B A (by omega) hw'
  obtain ⟨rfl, rfl⟩ := m1.uniq (.refl _) m2
  obtain ⟨rfl, rfl⟩ := m1.uniq List.perm_append_comm m3
  have hs := same_eq o (by omega)
  have hob : ∀ x ∈ o, i64 x.2.1 := fun x hx => by
    cases hk : ok with
    | false => rw [(m1.no hk).1] at hx; cases hx
    | true =>
      obtain ⟨_, q2, q3⟩ := m1.yes hk
      obtain ⟨y, y1, y2, y3⟩ := (q2 x).1 hx
      rw [y3, ← y2]
      exact q3 y y1
  have d4 : decide (([] : Ln).length + A.length ≤ 1099511627776) = true := by simp; omega
  have d5 : decide ((([] : Ln) ++ A).length + B.length ≤ 1099511627776) = true := by simp; omega
  rw [e1, e2, e3]
  simp only [Option.bind_some, own_tiers_ok, hs, Bool.not_true, Bool.not_false, bne_self_eq_false, cond_true, cond_false, blocks_eq o (by omega) hob, d4, d5, List.nil_append]
  rw [ref_blocks (A ++ B) (by omega) hw]
  simp only [Option.bind_some]
  have d6 : A.length + B.length ≤ 1099511627776 := by omega
  cases hk : ok with
  | false => simp [d6]
  | true =>
    subst hk
    rw [m1.total]
    simp [d6]
end Go.Proofs.Ytijpigojhildgaa.Pure
