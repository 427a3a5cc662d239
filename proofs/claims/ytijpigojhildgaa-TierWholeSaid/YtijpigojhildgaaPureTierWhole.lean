/- The plain law of TierWhole: what the law computes is true, whatever the input. -/
import Derived.Test.YtijpigojhildgaaPureTierMerges
import Derived.WideShapes
/-- What an array comes to: as many cells as its type takes. -/
theorem Go.WideShapes.okWide_array {P : Go.Program} {w : Go.World} {r : Go.Reach} {base : Nat} {t : Go.TypeId} {v : Go.Value} {m : Nat} {e : Go.TypeId} (ht : P.underlying t = some (.array m e)) (h : Go.Value.okWide P w r base t v) : ∃ cs, v = .agg cs ∧ cs.size = P.cellsOf t := by
  simp only [Go.Value.okWide, ht] at h
  obtain ⟨cs, h1, h2, _⟩ := h
  exact ⟨cs, h1, h2⟩
namespace Go.Proofs.Ytijpigojhildgaa.Pure
open Go.Vk Go.Am Go.Sort Go.Proofs Go.Proofs.Ytijpigojhildgaa.Y
set_option linter.unusedVariables false
set_option linter.unusedSimpArgs false
/-- Blocks behind each other are all blocks. -/
theorem spec_total (e : Int) : ∀ (l : Tr) (i lo prev : Int), l ≠ [] → 0 ≤ prev → chk prev l = 0 → lo ≤ e → bl (spec e i lo l) = e - lo
  | [], i, lo, _, h, _, _, _ => absurd rfl h
  | (u, p) :: r, i, lo, prev, _, hp, hc, hlo => by
    obtain ⟨h1, h2, h3, h4⟩ := chk_cons hc hp
    rw [spec, bl_app]
    have hs : ∀ (c : Prop) [Decidable c] (n q : Int), bl (if c then [(i, n, q)] else []) = if c then n else 0 := fun c _ n q => by
      split <;> simp [bl, sumL]
    rw [hs]
    rcases h3 with ⟨hr, hu⟩ | ⟨hr, h5, _⟩
    · subst hr hu
      simp only [spec]
      have : bl [] = 0 := rfl
      rw [this]
      split <;> split at * <;> (try split at *) <;> omega
    · by_cases hle : (if lo < u then u else lo) ≤ e
      · rw [spec_total e r (i + 1) (if lo < u then u else lo) u hr (by omega) h4 hle]
        split at hle <;> split <;> (try split) <;> (try split at *) <;> (try split at *) <;> omega
      · rw [spec_none e r (i + 1) _ (by omega)]
        have : bl [] = 0 := rfl
        rw [this]
        split at hle <;> split <;> (try split) <;> (try split at *) <;> (try split at *) <;> omega
theorem gs_app (A B : Ln) (k : L3) : gs (A ++ B) k = gs A k + gs B k := by
  unfold gs grp
  rw [List.filter_append, bl_app]
theorem gs_one (c : Prop) [Decidable c] (x k : L3) : gs (if c then [x] else []) k = if c then (if kx x = k then x.2.1 else 0) else 0 := by
  split
  · rw [gs_cons]; simp [gs, grp, bl, sumL]
  · rfl
theorem spec_ge (e : Int) : ∀ (l : Tr) (i lo : Int), ∀ z ∈ spec e i lo l, i ≤ z.1
  | [], i, lo, z, hz => by simp [spec] at hz
  | (u, p) :: r, i, lo, z, hz => by
    rw [spec] at hz
    rcases List.mem_append.1 hz with hz | hz
    · generalize (if u > 0 then (if u < e then u else e) else e) = hi at hz
      split at hz
      · simp only [List.mem_singleton] at hz; subst hz; exact Int.le_refl _
      · cases hz
    · have := spec_ge e r (i + 1) _ z hz
      omega
theorem spec_sorted (e : Int) : ∀ (l : Tr) (i lo : Int), (spec e i lo l).Pairwise ltK
  | [], i, lo => by simp [spec]
  | (u, p) :: r, i, lo => by
    rw [spec, List.pairwise_append]
    generalize (if u > 0 then (if u < e then u else e) else e) = hi
    refine ⟨by split <;> simp, spec_sorted e r _ _, fun x hx y hy => ?_⟩
    have := spec_ge e r (i + 1) _ y hy
    split at hx
    · simp only [List.mem_singleton] at hx; subst hx
      exact .inl (by show i < y.1; omega)
    · cases hx
theorem spec_pos (e : Int) : ∀ (l : Tr) (i lo : Int), ∀ z ∈ spec e i lo l, 0 < z.2.1
  | [], i, lo, z, hz => by simp [spec] at hz
  | (u, p) :: r, i, lo, z, hz => by
    rw [spec] at hz
    rcases List.mem_append.1 hz with hz | hz
    · generalize (if u > 0 then (if u < e then u else e) else e) = hi at hz
      split at hz
      · rename_i h
        simp only [List.mem_singleton] at hz; subst hz
        exact Int.sub_pos_of_lt h
      · cases hz
    · exact spec_pos e r (i + 1) _ z hz
theorem parts_arith (u lo e1 e2 : Int) (he : e1 ≤ e2) : (if (if u > 0 then (if u < e1 then u else e1) else e1) > lo then (if u > 0 then (if u < e1 then u else e1) else e1) - lo else 0) + (if (if u > 0 then (if u < e2 then u else e2) else e2) > (if lo < e1 then e1 else lo) then (if u > 0 then (if u < e2 then u else e2) else e2) - (if lo < e1 then e1 else lo) else 0) = (if (if u > 0 then (if u < e2 then u else e2) else e2) > lo then (if u > 0 then (if u < e2 then u else e2) else e2) - lo else 0) := by
  by_cases h1 : u > 0 <;> by_cases h2 : lo < e1 <;> by_cases h3 : u < e1 <;> by_cases h4 : u < e2 <;> simp only [h1, h2, h3, h4, if_true, if_false] <;> repeat' split
  all_goals omega
/-- What is split one behind the other has of each tier what is split at once. -/
theorem spec_parts (e1 e2 : Int) (he : e1 ≤ e2) : ∀ (l : Tr) (i lo : Int) (k : L3), gs (spec e1 i lo l) k + gs (spec e2 i (if lo < e1 then e1 else lo) l) k = gs (spec e2 i lo l) k
  | [], i, lo, k => by simp only [spec]; rfl
  | (u, p) :: r, i, lo, k => by
    have ih := spec_parts e1 e2 he r (i + 1) (if lo < u then u else lo) k
    have em : (if (if lo < u then u else lo) < e1 then e1 else (if lo < u then u else lo)) = (if (if lo < e1 then e1 else lo) < u then u else (if lo < e1 then e1 else lo)) := by
      repeat' split
      all_goals omega
    rw [em] at ih
    simp only [spec, gs_app, gs_one]
    have hk : ∀ n : Int, kx (i, n, p) = kx (i, 0, p) := fun n => rfl
    simp only [hk]
    by_cases hq : kx (i, 0, p) = k
    · have ha := parts_arith u lo e1 e2 he
      simp only [hq, if_true]
      omega
    · simp only [hq, if_false]
      have hz : ∀ (c : Prop) [Decidable c], (if c then (0 : Int) else 0) = 0 := fun c _ => by split <;> rfl
      simp only [hz]
      omega
theorem gs_pos {L : Ln} (h : ∀ z ∈ L, 0 < z.2.1) (k : L3) : 0 ≤ gs L k ∧ (0 < gs L k ↔ ∃ y ∈ L, kx y = k) := by
  induction L with
  | nil => simp [gs, grp, bl, sumL]
  | cons x L ih =>
    obtain ⟨h1, h2⟩ := ih fun z hz => h z (by simp [hz])
    have hx := h x (by simp)
    rw [gs_cons]
    by_cases hk : kx x = k
    · simp only [hk, if_true]
      refine ⟨by omega, fun _ => ⟨x, by simp, hk⟩, fun _ => by omega⟩
    · simp only [hk, if_false, Int.zero_add]
      refine ⟨h1, ?_⟩
      rw [h2]
      simp [hk]
theorem gs_sorted {C : Ln} (h : C.Pairwise ltK) {x : L3} (hx : x ∈ C) : gs C (kx x) = x.2.1 := by
  induction C with
  | nil => cases hx
  | cons y C ih =>
    rw [List.pairwise_cons] at h
    rw [gs_cons]
    rcases List.mem_cons.1 hx with rfl | hx
    · have : gs C (kx x) = 0 := by
        unfold gs
        rw [grp_none fun z hz => ?_]
        · rfl
        · exact fun e => ltK_kx (h.1 z hz) e.symm
      simp [this]
    · rw [if_neg (ltK_kx (h.1 x hx)), ih h.2 hx, Int.zero_add]
theorem gs_le_bl {L : Ln} (h : ∀ z ∈ L, 0 ≤ z.2.1) (k : L3) : gs L k ≤ bl L := by
  induction L with
  | nil => exact Int.le_refl _
  | cons x L ih =>
    have := ih fun z hz => h z (by simp [hz])
    have hx := h x (by simp)
    rw [gs_cons]
    have e : bl (x :: L) = x.2.1 + bl L := rfl
    rw [e]
    split <;> omega
theorem spec_merge {e1 e2 lo : Int} {l : Tr} {prev : Int} (h1 : lo ≤ e1) (h2 : e1 ≤ e2) (hne : l ≠ []) (hp : 0 ≤ prev) (hc : chk prev l = 0) (hb : e2 - lo ≤ 9223372036854775807) :
    IsM (spec e1 0 lo l ++ spec e2 0 e1 l) (spec e2 0 lo l) true := by
  have hparts : ∀ k, gs (spec e1 0 lo l ++ spec e2 0 e1 l) k = gs (spec e2 0 lo l) k := fun k => by
    have := spec_parts e1 e2 h2 l 0 lo k
    rw [gs_app, ← this]
    by_cases h : lo < e1
    · rw [if_pos h]
    · obtain rfl : lo = e1 := by omega
      simp
  have hposA : ∀ z ∈ spec e1 0 lo l ++ spec e2 0 e1 l, 0 < z.2.1 := fun z hz => (List.mem_append.1 hz).elim (spec_pos _ _ _ _ z) (spec_pos _ _ _ _ z)
  have hposC := spec_pos e2 l 0 lo
  have hS := spec_sorted e2 l 0 lo
  refine ⟨fun _ => ⟨hS, fun x => ⟨fun hx => ?_, ?_⟩, fun y hy => ?_⟩, fun h => by cases h⟩
  · have hg := gs_sorted hS hx
    have : 0 < gs (spec e1 0 lo l ++ spec e2 0 e1 l) (kx x) := by rw [hparts, hg]; exact hposC x hx
    obtain ⟨y, q1, q2⟩ := (gs_pos hposA (kx x)).2.1 this
    exact ⟨y, q1, q2, by rw [hparts, hg]⟩
  · rintro ⟨y, q1, q2, q3⟩
    have : 0 < gs (spec e2 0 lo l) (kx x) := by rw [← hparts]; exact (gs_pos hposA (kx x)).2.2 ⟨y, q1, q2⟩
    obtain ⟨z, z1, z2⟩ := (gs_pos hposC (kx x)).2.1 this
    have hz := gs_sorted hS z1
    rw [hparts, ← z2, hz] at q3
    have : x = z := by
      obtain ⟨a1, a2, a3⟩ := x
      obtain ⟨b1, b2, b3⟩ := z
      simp only [kx, Prod.mk.injEq, true_and] at z2
      simp only at q3
      rw [q3, z2.1, z2.2]
    rw [this]; exact z1
  · rw [hparts]
    have g1 := (gs_pos hposC (kx y)).1
    have g2 := gs_le_bl (fun z hz => Int.le_of_lt (hposC z hz)) (kx y)
    rw [spec_total e2 l 0 lo prev hne hp hc (by omega)] at g2
    unfold i64
    omega
theorem arr_get (a2 : List Int) (h : ∀ x ∈ a2, (Lit.int .i64 x).wf = true) (j : Nat) : (Lit.int .i64 (a2.getD j 0)).wf = true := by
  rw [List.getD_eq_getElem?_getD]
  cases hj : a2[j]? with
  | none => rfl
  | some x => exact h x (List.mem_of_getElem? hj)
theorem TierWhole (t : Int × Int × Int × List (Int × Int)) (x : Int) (a2 : List Int) (h0 : wfTy (.pair (.int .i64) (.pair (.int .i64) (.pair (.int .i64) (.slice (.pair (.int .i64) (.int .i64)))))) t) (h1 : wfTy (.int .i64) x) (h2 : wfTy (.arr .i64 2) a2) : purserlaw10_TierWhole.f t x a2 = some true := by
  obtain ⟨a, b, c, l⟩ := t
  have hl : (l.take 9).length ≤ 9 := by simp; omega
  have ux : ∀ z : Int, 0 ≤ IntKind.u64.wrap z := fun z => by rw [IntKind.wrap_u64]; omega
  have m1 : 0 ≤ Int.tmod (IntKind.u64.wrap x) 549755813888 ∧ Int.tmod (IntKind.u64.wrap x) 549755813888 < 549755813888 := by
    rw [Int.tmod_eq_emod_of_nonneg (ux x)]; omega
  have m2 : ∀ z : Int, 0 ≤ Int.tmod (IntKind.u64.wrap z) 536870912 ∧ Int.tmod (IntKind.u64.wrap z) 536870912 < 536870912 := fun z => by
    rw [Int.tmod_eq_emod_of_nonneg (ux z)]; omega
  have m3 := m2 (a2.getD 0 0)
  have m4 := m2 (a2.getD 1 0)
  simp only [purserlaw10_TierWhole.f, tame_eq, Option.bind_some]
  revert m1 m3 m4
  generalize Int.tmod (IntKind.u64.wrap x) 549755813888 = p
  generalize Int.tmod (IntKind.u64.wrap (a2.getD 0 0)) 536870912 = q
  generalize Int.tmod (IntKind.u64.wrap (a2.getD 1 0)) 536870912 = r
  intro m1 m3 m4
  generalize l.take 9 = L at *
  rw [wr p (by omega) (by omega), wr q (by omega) (by omega), wr r (by omega) (by omega), wr (p + q) (by omega) (by omega), wr (q + r) (by omega) (by omega)]
  simp only [own_split _ _ _ _ _ _ hl, own_tiers_ok, ref_check, Option.bind_some]
  by_cases hck : CK a b c L = 0
  · obtain ⟨c1, c2, c3⟩ := CK_chk hck
    have hsp : ∀ (u v : Int), 0 ≤ u → u ≤ 1099511627776 → 0 ≤ v → v ≤ 1073741824 → SP a b c L u v = if b = 2 then (if v = 0 then ([], 0) else ([(idx (u + v) 0 L, v, (L.getD (idx (u + v) 0 L).toNat (0, 0)).2)], 0)) else (spec (u + v) 0 u L, 0) := by
      intro u v h1 h2 h3 h4
      unfold SP
      rw [if_neg (by omega)]
      by_cases hv : v = 0
      · subst hv
        rw [if_pos rfl]
        split
        · rfl
        · rw [spec_none _ _ _ _ (by omega)]
      · rw [if_neg hv, if_neg hv]
    rw [hsp p q (by omega) (by omega) (by omega) (by omega), hsp (p + q) r (by omega) (by omega) (by omega) (by omega), hsp p (q + r) (by omega) (by omega) (by omega) (by omega)]
    by_cases hb : b = 2
    · subst hb
      simp only [if_true]
      have e2 : ∀ (c : Prop) [Decidable c] (u v : Ln), (if c then (u, (0 : Int)) else (v, 0)) = (if c then u else v, 0) := fun c _ u v => by split <;> rfl
      simp only [e2]
      simp only [Bool.not_true, Bool.not_false, bne_self_eq_false, cond_true, cond_false, hck, beq_self_eq_true, Option.bind_some]
      have hbl : tier_Blocks.f (if q + r = 0 then [] else [(idx (p + (q + r)) 0 L, q + r, (L.getD (idx (p + (q + r)) 0 L).toNat (0, 0)).2)]) = some (q + r, true) := by
        rw [blocks_eq _ (by split <;> simp) (fun z hz => by
          split at hz
          · cases hz
          · simp only [List.mem_singleton] at hz; subst hz
            unfold i64; simp only; omega)]
        have : bl (if q + r = 0 then [] else [(idx (p + (q + r)) 0 L, q + r, (L.getD (idx (p + (q + r)) 0 L).toNat (0, 0)).2)]) = q + r := by
          split
          · rename_i h; rw [h]; rfl
          · simp [bl, sumL]
        rw [this]
        unfold FI
        rw [if_pos (by omega)]
      rw [hbl]
      simp only [Option.bind_some, Bool.not_true, Bool.not_false, bne_self_eq_false, cond_true, cond_false]
      obtain ⟨i1, i2⟩ := idx_in hck (p + (q + r))
      by_cases hz : q + r = 0
      · simp [hz]
      · have d1 : decide (0 ≤ idx (p + (q + r)) 0 L) = true := by simpa using i1
        have d2 : decide (idx (p + (q + r)) 0 L < (L.length : Int)) = true := by simpa using i2
        simp [hz, d1, d2, i1, i2]
    · have hb' : (b == 2) = false := by simpa using hb
      simp only [hb, if_false]
      simp only [Bool.not_true, Bool.not_false, bne_self_eq_false, cond_true, cond_false, hck, beq_self_eq_true, Option.bind_some, hb']
      have hpos := spec_pos (p + (q + r)) L 0 p
      have htot := spec_total (p + (q + r)) L 0 p 0 c2 (by omega) c1 (by omega)
      have hlen := spec_len (p + (q + r)) L 0 p
      have hbl : tier_Blocks.f (spec (p + (q + r)) 0 p L) = some (q + r, true) := by
        rw [blocks_eq _ (by omega) (fun z hz => by
          have h1 := hpos z hz
          have h2 := bl_each (fun y hy => Int.le_of_lt (hpos y hy)) (Int.le_of_eq htot) z hz
          unfold i64; omega), htot]
        unfold FI
        rw [if_pos (by omega)]
        congr 2
        omega
      rw [hbl]
      simp only [Option.bind_some, Bool.not_true, Bool.not_false, bne_self_eq_false, cond_true, cond_false]
      have hA := spec_pos (p + q) L 0 p
      have hB := spec_pos (p + q + r) L 0 (p + q)
      have tA := spec_total (p + q) L 0 p 0 c2 (by omega) c1 (by omega)
      have tB := spec_total (p + q + r) L 0 (p + q) 0 c2 (by omega) c1 (by omega)
      have lA := spec_len (p + q) L 0 p
      have lB := spec_len (p + q + r) L 0 (p + q)
      obtain ⟨o, ok, e1, m1'⟩ := own_merge (spec (p + q) 0 p L) (spec (p + q + r) 0 (p + q) L) (by simp; omega) (fun z hz => by
        rcases List.mem_append.1 hz with hz | hz
        · have h1 := hA z hz
          have h2 := bl_each (fun y hy => Int.le_of_lt (hA y hy)) (Int.le_of_eq tA) z hz
          unfold i64; omega
        · have h1 := hB z hz
          have h2 := bl_each (fun y hy => Int.le_of_lt (hB y hy)) (Int.le_of_eq tB) z hz
          unfold i64; omega)
      have hM := spec_merge (e1 := p + q) (e2 := p + q + r) (lo := p) (l := L) (prev := 0) (by omega) (by omega) c2 (by omega) c1 (by omega)
      obtain ⟨rfl, rfl⟩ := m1'.uniq (.refl _) hM
      have ee : p + q + r = p + (q + r) := by omega
      rw [e1, ee]
      simp only [Option.bind_some, cond_true, same_eq _ (show (spec (p + (q + r)) 0 p L).length ≤ 1048576 by omega)]
  · have hsp : ∀ (u v : Int), SP a b c L u v = ([], 1) := fun u v => by
      unfold SP
      rw [if_pos (.inl hck)]
    have hck' : (CK a b c L == 0) = false := by simpa using hck
    simp only [hsp, hck', Bool.not_true, Bool.not_false, bne_self_eq_false, cond_true, cond_false, Option.bind_some]
    rfl
end Go.Proofs.Ytijpigojhildgaa.Pure
