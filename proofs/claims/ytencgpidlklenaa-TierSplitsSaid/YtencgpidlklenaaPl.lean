/- Plain laws of tariffs and of splits: what the program's functions and the document's functions compute is the same; no condition but what each line says. -/
import Derived.Test.YtencgpidlklenaaTd
import Derived.IntWalk
namespace Go.Proofs.Ytencgpidlklenaa.Pure
open Go.Vk
set_option linter.unusedVariables false
set_option linter.unusedSimpArgs false

theorem wr (n : Int) (h : -9223372036854775808 ≤ n) (h' : n ≤ 9223372036854775807) : IntKind.i64.wrap n = n := IntWalk.i64_in n ⟨h, h'⟩
abbrev Tr := List (Int × Int)
theorem getD_pre {α : Type} (pre : List α) (x : α) (suf : List α) (d : α) : (pre ++ x :: suf).getD ((pre.length : Int)).toNat d = x := by simp
theorem bt {α : Type} (c : Prop) [Decidable c] (x y : α) : (bif decide c then x else y) = if c then x else y := by by_cases h : c <;> simp [h]

theorem within_eq (a b c : Int) : tariff_within.f a b c = some (decide (a ≥ b ∧ a ≤ c)) := by
  unfold tariff_within.f
  by_cases h : a ≥ b <;> simp [h]

/-- What is wrong with these tiers, behind one that goes as far as prev. -/
def chk : Int → Tr → Int
  | _, [] => 0
  | prev, (u, p) :: rest =>
    if p < 0 ∨ p > 1048576 then 1
    else if rest = [] then (if u ≠ 0 then 15 else 0)
    else if u ≤ prev ∨ u > 1099511627776 then 15 else chk u rest

theorem ref_tiers (suf : Tr) : ∀ (pre : Tr) (prev : Int) (hn : (pre ++ suf).length ≤ 9),
    loopO (purserref09_Check.l13 (pre ++ suf)) (prev, pre.length) = some (if chk prev suf = 0 then .inl () else .inr (chk prev suf)) := by
  induction suf with
  | nil =>
    intro pre prev hn
    rw [loopO_eq]
    simp [purserref09_Check.l13, chk]
  | cons x rest ih =>
    intro pre prev hn
    obtain ⟨u, p⟩ := x
    have hl : (pre ++ (u, p) :: rest).length = pre.length + rest.length + 1 := by simp; omega
    rw [hl] at hn
    have hlt : ((pre.length : Int) < ((pre ++ (u, p) :: rest).length : Int)) := by rw [hl]; omega
    have e1 : IntKind.i64.wrap (((pre ++ (u, p) :: rest).length : Int) - 1) = (pre.length + rest.length : Nat) := by rw [hl, wr _ (by omega) (by omega)]; omega
    have e2 : IntKind.i64.wrap ((pre.length : Int) + 1) = ((pre ++ [(u, p)]).length : Nat) := by rw [wr _ (by omega) (by omega)]; simp
    have e3 : pre ++ (u, p) :: rest = (pre ++ [(u, p)]) ++ rest := by simp
    rw [loopO_eq]
    simp only [purserref09_Check.l13, hlt, e1, e2, getD_pre, decide_true, cond_true, Int.natCast_nonneg, Bool.and_self, Bool.cond_eq_ite, decide_eq_true_eq, beq_iff_eq, bne_iff_ne]
    unfold chk
    by_cases h1 : p < 0
    · simp [h1]
    by_cases h2 : p > 1048576
    · simp [h1, h2]
    by_cases hr : rest = []
    · subst hr
      by_cases hu : u = 0
      · have := ih (pre ++ [(u, p)]) u (by simp; omega)
        simp only [List.append_nil, chk] at this
        simp [h1, h2, hu]
        simpa [hu] using this
      · simp [h1, h2, hu]
    · have hne : ¬ ((pre.length : Int) = ((pre.length + rest.length : Nat) : Int)) := by
        have : 0 < rest.length := List.length_pos_iff.2 hr
        omega
      by_cases h3 : u ≤ prev
      · simp only [h1, h2, hr, hne, h3, if_false, if_true, Option.bind_some, or_self, true_or]; rfl
      by_cases h4 : u > 1099511627776
      · simp only [h1, h2, hr, hne, h3, h4, if_false, if_true, Option.bind_some, or_self, or_true]; rfl
      simp only [h1, h2, hr, hne, h3, h4, if_false, Option.bind_some, or_self]
      rw [e3]
      exact ih (pre ++ [(u, p)]) u (by simp; omega)
theorem own_tiers (suf : Tr) : ∀ (pre : Tr) (prev : Int) (hp : -9223372036854775808 ≤ prev ∧ prev ≤ 1099511627776) (hn : (pre ++ suf).length ≤ 9),
    loopO (tariff_tiers.l3 (pre ++ suf)) (prev, pre.length) = some (if chk prev suf = 0 then .inl () else .inr (chk prev suf)) := by
  induction suf with
  | nil =>
    intro pre prev hp hn
    rw [loopO_eq]
    simp [tariff_tiers.l3, chk]
  | cons x rest ih =>
    intro pre prev hp hn
    obtain ⟨u, p⟩ := x
    have hl : (pre ++ (u, p) :: rest).length = pre.length + rest.length + 1 := by simp; omega
    rw [hl] at hn
    have hlt : ((pre.length : Int) < ((pre ++ (u, p) :: rest).length : Int)) := by rw [hl]; omega
    have e1 : IntKind.i64.wrap (((pre ++ (u, p) :: rest).length : Int) - 1) = (pre.length + rest.length : Nat) := by rw [hl, wr _ (by omega) (by omega)]; omega
    have e2 : IntKind.i64.wrap ((pre.length : Int) + 1) = ((pre ++ [(u, p)]).length : Nat) := by rw [wr _ (by omega) (by omega)]; simp
    have e3 : pre ++ (u, p) :: rest = (pre ++ [(u, p)]) ++ rest := by simp
    have e4 : IntKind.i64.wrap (prev + 1) = prev + 1 := wr _ (by omega) (by omega)
    rw [loopO_eq]
    simp only [tariff_tiers.l3, within_eq, Option.bind_some, hlt, e1, e2, e4, getD_pre, decide_true, cond_true, Int.natCast_nonneg, Bool.and_self, Bool.cond_eq_ite, decide_eq_true_eq, beq_iff_eq, bne_iff_ne]
    unfold chk
    by_cases h1 : p < 0
    · have : ¬ (p ≥ 0 ∧ p ≤ 1048576) := by omega
      simp [h1, this]
    by_cases h2 : p > 1048576
    · have : ¬ (p ≥ 0 ∧ p ≤ 1048576) := by omega
      simp [h1, h2, this]
    have h12 : p ≥ 0 ∧ p ≤ 1048576 := by omega
    by_cases hr : rest = []
    · subst hr
      by_cases hu : u = 0
      · have := ih (pre ++ [(u, p)]) u (by omega) (by simp; omega)
        simp only [List.append_nil, chk] at this
        simp [h1, h2, hu, h12]
        simpa [hu] using this
      · simp [h1, h2, hu, h12]
    · have hne : ¬ ((pre.length : Int) = ((pre.length + rest.length : Nat) : Int)) := by
        have : 0 < rest.length := List.length_pos_iff.2 hr
        omega
      by_cases h3 : u ≤ prev
      · have h5 : ¬ (u ≥ prev + 1 ∧ u ≤ 1099511627776) := by omega
        simp only [h1, h2, hr, hne, h3, h12, h5, if_false, if_true, Option.bind_some, or_self, true_or, and_self]; rfl
      by_cases h4 : u > 1099511627776
      · have h5 : ¬ (u ≥ prev + 1 ∧ u ≤ 1099511627776) := by omega
        simp only [h1, h2, hr, hne, h3, h4, h12, h5, if_false, if_true, Option.bind_some, or_self, or_true, and_self]; rfl
      have h5 : (u ≥ prev + 1 ∧ u ≤ 1099511627776) := by omega
      simp only [h1, h2, hr, hne, h3, h4, h12, h5, if_false, if_true, Option.bind_some, or_self, and_self]
      rw [e3]
      exact ih (pre ++ [(u, p)]) u (by omega) (by simp; omega)

/-- What is wrong with a tariff. -/
def CK (a b c : Int) (l : Tr) : Int :=
  if a < 1 ∨ a > 8 ∨ c < 1 ∨ c > 1073741824 then 1 else if b ≠ 1 ∧ b ≠ 2 then 21 else if l.length < 1 ∨ l.length > 6 then 5 else chk 0 l
theorem md (b x : Int) : (if b = 1 then some x else if b = 2 then some x else some 21) = some (if ¬b = 1 ∧ ¬b = 2 then 21 else x) := by
  by_cases h : b = 1
  · simp [h]
  · by_cases h' : b = 2
    · simp [h']
    · simp [h, h']
theorem ref_check (a b c : Int) (l : Tr) : purserref09_Check.f a b c l = some (CK a b c l) := by
  have hL : l.length ≤ 9 → loopO (purserref09_Check.l13 l) (0, 0) = some (if chk 0 l = 0 then .inl () else .inr (chk 0 l)) := fun h => by
    simpa using ref_tiers l [] 0 (by simpa using h)
  have hM : purserref09_Check.l35 = purserref09_Check.l13 := rfl
  simp only [purserref09_Check.f, hM, Bool.cond_eq_ite, decide_eq_true_eq, beq_iff_eq, bne_iff_ne, CK]
  by_cases h1 : a < 1
  · simp [h1]
  by_cases h2 : a > 8
  · simp [h1, h2]
  by_cases h3 : c < 1
  · simp [h1, h2, h3]
  by_cases h4 : c > 1073741824
  · simp [h1, h2, h3, h4]
  simp only [h1, h2, h3, h4, if_false, or_self]
  by_cases h7 : ((l.length : Int) < 1)
  · have : l.length < 1 := by omega
    simp [h7, this, md]
  by_cases h8 : ((l.length : Int) > 6)
  · have : l.length > 6 := by omega
    simp [h7, h8, this, md]
  have h9 : ¬ (l.length < 1 ∨ l.length > 6) := by omega
  simp only [h7, h8, h9, if_false, hL (by omega), Option.bind_some, purserref09_Check.j12, purserref09_Check.j34]
  by_cases h10 : chk 0 l = 0
  · simp [h10, md]
  · simp [h10, md]
theorem own_check (a b c : Int) (l : Tr) : tariff_Check.f a b c l = some (CK a b c l) := by
  have hT : l.length ≤ 9 → tariff_tiers.f l = some (chk 0 l) := fun h => by
    have := own_tiers l [] 0 (by omega) (by simpa using h)
    simp only [List.nil_append, List.length_nil] at this
    unfold tariff_tiers.f
    show (loopO (tariff_tiers.l3 l) (0, ((0 : Nat) : Int))).bind _ = _
    rw [this]
    by_cases h0 : chk 0 l = 0 <;> simp [h0, tariff_tiers.j2]
  simp only [tariff_Check.f, within_eq, Option.bind_some, Bool.cond_eq_ite, decide_eq_true_eq, beq_iff_eq, bne_iff_ne, CK]
  by_cases h1 : a ≥ 1 ∧ a ≤ 8
  · by_cases h3 : c ≥ 1 ∧ c ≤ 1073741824
    · have h5 : ¬ (a < 1 ∨ a > 8 ∨ c < 1 ∨ c > 1073741824) := by omega
      simp only [h1, h3, h5, if_true, if_false, and_self]
      by_cases h7 : ((l.length : Int) ≥ 1 ∧ (l.length : Int) ≤ 6)
      · have h9 : ¬ (l.length < 1 ∨ l.length > 6) := by omega
        simp only [h7, h9, if_true, if_false, hT (by omega), Option.bind_some, and_self]
        by_cases hb : b = 1
        · simp [hb]
        · by_cases hb' : b = 2
          · simp [hb']
          · simp [hb, hb']
      · have h9 : (l.length < 1 ∨ l.length > 6) := by omega
        simp only [h7, h9, if_true, if_false]
        by_cases hb : b = 1
        · simp [hb]
        · by_cases hb' : b = 2
          · simp [hb']
          · simp [hb, hb']
    · have h5 : (a < 1 ∨ a > 8 ∨ c < 1 ∨ c > 1073741824) := by omega
      simp only [h1, h3, h5, if_true, if_false, and_self]
  · have h5 : (a < 1 ∨ a > 8 ∨ c < 1 ∨ c > 1073741824) := by omega
    simp only [h1, h5, if_true, if_false]

/-- The first tier, counted from i on, in which a block is. -/
def idx (k : Int) : Int → Tr → Int
  | _, [] => -1
  | i, (u, _) :: r => if u = 0 ∨ k ≤ u then i else idx k (i + 1) r
theorem ref_idx (k : Int) (suf : Tr) : ∀ (pre : Tr) (hn : (pre ++ suf).length ≤ 9),
    (loopO (purserref10_Index.l9 (pre ++ suf) k) pre.length).bind (fun b => match b with | .inl e => purserref10_Index.j8 e | .inr q => some q) = some (idx k pre.length suf) := by
  induction suf with
  | nil =>
    intro pre hn
    rw [loopO_eq]
    simp [purserref10_Index.l9, purserref10_Index.j8, idx]
  | cons x rest ih =>
    intro pre hn
    obtain ⟨u, p⟩ := x
    have hl : (pre ++ (u, p) :: rest).length = pre.length + rest.length + 1 := by simp; omega
    rw [hl] at hn
    have hlt : ((pre.length : Int) < ((pre ++ (u, p) :: rest).length : Int)) := by rw [hl]; omega
    have e2 : IntKind.i64.wrap ((pre.length : Int) + 1) = ((pre ++ [(u, p)]).length : Nat) := by rw [wr _ (by omega) (by omega)]; simp
    have e3 : pre ++ (u, p) :: rest = (pre ++ [(u, p)]) ++ rest := by simp
    have e4 : (pre.length : Int) + 1 = ((pre ++ [(u, p)]).length : Nat) := by simp
    rw [loopO_eq]
    simp only [purserref10_Index.l9, hlt, e2, getD_pre, decide_true, cond_true, Int.natCast_nonneg, Bool.and_self, Bool.cond_eq_ite, decide_eq_true_eq, beq_iff_eq, bne_iff_ne, if_true]
    unfold idx
    by_cases h1 : u = 0
    · simp [h1]
    by_cases h2 : k ≤ u
    · simp [h1, h2]
    simp only [h1, h2, if_false, or_self, Option.bind_some]
    rw [e3, e4]
    exact ih (pre ++ [(u, p)]) (by simp; omega)
theorem own_idx (k : Int) (suf : Tr) : ∀ (pre : Tr) (hn : (pre ++ suf).length ≤ 9),
    (loopO (api_Tier_at_47.l4 (pre ++ suf) k) pre.length).bind (fun b => match b with | .inl e => api_Tier_at_47.j3 e | .inr q => some q) = some (idx k pre.length suf) := by
  induction suf with
  | nil =>
    intro pre hn
    rw [loopO_eq]
    simp [api_Tier_at_47.l4, api_Tier_at_47.j3, idx]
  | cons x rest ih =>
    intro pre hn
    obtain ⟨u, p⟩ := x
    have hl : (pre ++ (u, p) :: rest).length = pre.length + rest.length + 1 := by simp; omega
    rw [hl] at hn
    have hlt : ((pre.length : Int) < ((pre ++ (u, p) :: rest).length : Int)) := by rw [hl]; omega
    have e2 : IntKind.i64.wrap ((pre.length : Int) + 1) = ((pre ++ [(u, p)]).length : Nat) := by rw [wr _ (by omega) (by omega)]; simp
    have e3 : pre ++ (u, p) :: rest = (pre ++ [(u, p)]) ++ rest := by simp
    have e4 : (pre.length : Int) + 1 = ((pre ++ [(u, p)]).length : Nat) := by simp
    rw [loopO_eq]
    simp only [api_Tier_at_47.l4, tier_Index_1.f, hlt, e2, getD_pre, decide_true, cond_true, Int.natCast_nonneg, Bool.and_self, Bool.cond_eq_ite, decide_eq_true_eq, beq_iff_eq, bne_iff_ne, if_true]
    unfold idx
    by_cases h1 : u = 0
    · simp [h1]
    by_cases h2 : k ≤ u
    · simp [h1, h2]
    simp only [h1, h2, if_false, or_self, Option.bind_some, decide_false, Bool.false_eq_true]
    rw [e3, e4]
    exact ih (pre ++ [(u, p)]) (by simp; omega)
/-- A block's tier. -/
def IX (a b c : Int) (l : Tr) (k : Int) : Int := if CK a b c l ≠ 0 ∨ k < 1 then -1 else idx k 0 l
theorem ref_index (a b c : Int) (l : Tr) (k : Int) (hl : l.length ≤ 9) : purserref10_Index.f a b c l k = some (IX a b c l k) := by
  have := ref_idx k l [] (by simpa using hl)
  simp only [List.nil_append, List.length_nil] at this
  have this : (loopO (purserref10_Index.l9 l k) 0).bind (fun b => match b with | .inl e => purserref10_Index.j8 e | .inr q => some q) = some (idx k 0 l) := this
  simp only [purserref10_Index.f, ref_check, Option.bind_some, Bool.cond_eq_ite, decide_eq_true_eq, bne_iff_ne, IX]
  by_cases h1 : CK a b c l = 0 <;> by_cases h2 : k < 1 <;> simp [h1, h2]
  exact this
theorem own_index (a b c : Int) (l : Tr) (k : Int) (hl : l.length ≤ 9) : tier_Index.f a b c l k = some (IX a b c l k) := by
  have := own_idx k l [] (by simpa using hl)
  simp only [List.nil_append, List.length_nil] at this
  have this : api_Tier_at_47.f l k = some (idx k 0 l) := this
  simp only [tier_Index.f, own_check, Option.bind_some, Bool.cond_eq_ite, decide_eq_true_eq, bne_iff_ne, IX, this]
  by_cases h1 : CK a b c l = 0 <;> by_cases h2 : k < 1 <;> simp [h1, h2]

theorem chk_cons {prev u p : Int} {rest : Tr} (h : chk prev ((u, p) :: rest) = 0) (hp : 0 ≤ prev) :
    0 ≤ p ∧ p ≤ 1048576 ∧ ((rest = [] ∧ u = 0) ∨ (rest ≠ [] ∧ prev < u ∧ u ≤ 1099511627776)) ∧ chk u rest = 0 := by
  unfold chk at h
  by_cases h1 : p < 0 ∨ p > 1048576
  · simp [h1] at h
  rw [if_neg h1] at h
  by_cases hr : rest = []
  · subst hr
    by_cases hu : u = 0
    · exact ⟨by omega, by omega, .inl ⟨rfl, hu⟩, by simp [chk]⟩
    · simp [hu] at h
  · rw [if_neg hr] at h
    by_cases h2 : u ≤ prev ∨ u > 1099511627776
    · simp [h2] at h
    · rw [if_neg h2] at h
      exact ⟨by omega, by omega, .inr ⟨hr, by omega, by omega⟩, h⟩
theorem idx_pass (k : Int) (suf : Tr) : ∀ (pre : Tr) (i : Int), (∀ x ∈ pre, x.1 ≠ 0 ∧ x.1 < k) → idx k i (pre ++ suf) = idx k (i + pre.length) suf
  | [], i, _ => by simp
  | (u, p) :: pre, i, h => by
    have hx := h (u, p) (by simp)
    simp only at hx
    rw [List.cons_append, idx, if_neg (by omega), idx_pass k suf pre (i + 1) (fun x hx => h x (by simp [hx]))]
    congr 1
    simp
    omega
theorem idx_there (k : Int) (suf : Tr) : ∀ (prev i : Int), 0 ≤ prev → suf ≠ [] → chk prev suf = 0 → i ≤ idx k i suf ∧ idx k i suf < i + suf.length := by
  induction suf with
  | nil => intro _ _ _ h; exact absurd rfl h
  | cons x rest ih =>
    intro prev i hp _ hc
    obtain ⟨u, p⟩ := x
    obtain ⟨_, _, h3, h4⟩ := chk_cons hc hp
    unfold idx
    by_cases h : u = 0 ∨ k ≤ u
    · rw [if_pos h]; simp; omega
    · rw [if_neg h]
      rcases h3 with ⟨_, h5⟩ | ⟨h5, h6, _⟩
      · exact absurd (.inl h5) h
      · have := ih u (i + 1) (by omega) h5 h4
        simp only [List.length_cons]
        omega

/-- The lines from lo on to e, of tiers counted from i on. -/
def spec (e : Int) : Int → Int → Tr → List (Int × Int × Int)
  | _, _, [] => []
  | i, lo, (u, p) :: r =>
    (if (if u > 0 then (if u < e then u else e) else e) > lo then [(i, (if u > 0 then (if u < e then u else e) else e) - lo, p)] else []) ++ spec e (i + 1) (if lo < u then u else lo) r
theorem spec_none (e : Int) (suf : Tr) : ∀ (i lo : Int), e ≤ lo → spec e i lo suf = [] := by
  induction suf with
  | nil => intros; rfl
  | cons x rest ih =>
    intro i lo h
    obtain ⟨u, p⟩ := x
    unfold spec
    rw [if_neg (by split <;> (try split) <;> omega), ih _ _ (by split <;> omega)]
    rfl

theorem ref_lines (x y : Int) (hx : 0 ≤ x ∧ x ≤ 1099511627776) (hy : 0 ≤ y ∧ y ≤ 1073741824) (suf : Tr) : ∀ (pre : Tr) (L q : Int) (acc : List (Int × Int × Int)), 0 ≤ L → L ≤ 1099511627776 → chk L suf = 0 → (pre ++ (L, q) :: suf).length ≤ 9 → acc.length + suf.length ≤ 100 →
    loopO (purserref10_Split.l49 (pre ++ (L, q) :: suf) x y) (acc, ((pre ++ [(L, q)]).length : Nat)) = some (.inl (acc ++ spec (x + y) ((pre ++ [(L, q)]).length : Nat) (if x < L then L else x) suf)) := by
  have exy : IntKind.i64.wrap (x + y) = x + y := wr _ (by omega) (by omega)
  induction suf with
  | nil =>
    intro pre L q acc h0 h1 hc hn ha
    rw [loopO_eq]
    simp [purserref10_Split.l49, spec]
  | cons z rest ih =>
    intro pre L q acc h0 h1 hc hn ha
    obtain ⟨u, p⟩ := z
    obtain ⟨hp0, hp1, hu, hc'⟩ := chk_cons hc h0
    have hl : (pre ++ (L, q) :: (u, p) :: rest).length = pre.length + rest.length + 2 := by simp; omega
    rw [hl] at hn
    have e0 : ((pre ++ [(L, q)]).length : Nat) = pre.length + 1 := by simp
    have hlt : (((pre.length + 1 : Nat) : Int) < ((pre ++ (L, q) :: (u, p) :: rest).length : Int)) := by rw [hl]; omega
    have hgt : (((pre.length + 1 : Nat) : Int) > 0) := by omega
    have e1 : IntKind.i64.wrap (((pre.length + 1 : Nat) : Int) - 1) = ((pre.length : Nat) : Int) := by rw [wr _ (by omega) (by omega)]; omega
    have e1' : ((pre.length : Nat) : Int) < ((pre ++ (L, q) :: (u, p) :: rest).length : Int) := by rw [hl]; omega
    have e2 : IntKind.i64.wrap (((pre.length + 1 : Nat) : Int) + 1) = ((pre.length + 2 : Nat) : Int) := by rw [wr _ (by omega) (by omega)]; omega
    have g1 : (pre ++ (L, q) :: (u, p) :: rest).getD ((pre.length : Nat) : Int).toNat (0, 0) = (L, q) := getD_pre _ _ _ _
    have g2 : (pre ++ (L, q) :: (u, p) :: rest).getD ((pre.length + 1 : Nat) : Int).toNat (0, 0) = (u, p) := by
      simp
    have hu0 : 0 ≤ u ∧ u ≤ 1099511627776 := by rcases hu with ⟨_, h⟩ | ⟨_, h, h'⟩ <;> omega
    have next : ∀ acc' : List (Int × Int × Int), acc'.length ≤ acc.length + 1 → loopO (purserref10_Split.l49 (pre ++ (L, q) :: (u, p) :: rest) x y) (acc', ((pre.length + 2 : Nat) : Int)) = some (.inl (acc' ++ spec (x + y) (((pre.length + 1 : Nat) : Int) + 1) (if (if x < L then L else x) < u then u else if x < L then L else x) rest)) := by
      intro acc' hacc
      have := ih (pre ++ [(L, q)]) u p acc' hu0.1 hu0.2 hc' (by simp; omega) (by simp at ha; omega)
      have a1 : pre ++ [(L, q)] ++ (u, p) :: rest = pre ++ (L, q) :: (u, p) :: rest := by simp
      have a2 : ((pre ++ [(L, q)] ++ [(u, p)]).length : Nat) = pre.length + 2 := by simp
      rw [a1, a2] at this
      rw [this]
      rcases hu with ⟨hr, _⟩ | ⟨_, h, _⟩
      · subst hr; simp [spec]
      · have b1 : (if (if x < L then L else x) < u then u else if x < L then L else x) = if x < u then u else x := by
          split <;> split <;> (try split) <;> omega
        rw [b1]
        have b2 : ((pre.length + 2 : Nat) : Int) = ((pre.length + 1 : Nat) : Int) + 1 := by omega
        rw [b2]
    have wE : ∀ a b : Int, 0 ≤ a → a ≤ 4611686018427387904 → 0 ≤ b → b ≤ 4611686018427387904 → IntKind.i64.wrap (a - b) = a - b := fun a b _ _ _ _ => wr _ (by omega) (by omega)
    rw [loopO_eq, e0]
    have hacc : ∀ z : Int × Int × Int, acc.length + [z].length ≤ 1099511627776 := fun z => by simp at ha ⊢; omega
    simp only [purserref10_Split.l49, hlt, hgt, e1, e1', e2, g1, g2, exy, decide_true, cond_true, Int.natCast_nonneg, Bool.and_self, Bool.cond_eq_ite, decide_eq_true_eq, if_true, hacc]
    rw [spec]
    by_cases hup : u > 0
    · simp only [hup, if_true]
      by_cases hh : (if u < x + y then u else x + y) > (if x < L then L else x)
      · simp only [hh, if_true, Option.bind_some]
        rw [next _ (by simp), wE _ _ (by split <;> omega) (by split <;> omega) (by split <;> omega) (by split <;> omega)]
        simp
      · simp only [hh, if_false, Option.bind_some]
        rw [next _ (by simp)]
        simp
    · simp only [hup, if_false]
      by_cases hh : (x + y) > (if x < L then L else x)
      · simp only [hh, if_true, Option.bind_some]
        rw [next _ (by simp), wE _ _ (by omega) (by omega) (by split <;> omega) (by split <;> omega)]
        simp
      · simp only [hh, if_false, Option.bind_some]
        rw [next _ (by simp)]
        simp
theorem ref_lines0 (x y : Int) (hx : 0 ≤ x ∧ x ≤ 1099511627776) (hy : 0 ≤ y ∧ y ≤ 1073741824) (l : Tr) (hc : chk 0 l = 0) (hn : l.length ≤ 9) :
    loopO (purserref10_Split.l49 l x y) ([], 0) = some (.inl (spec (x + y) 0 x l)) := by
  have exy : IntKind.i64.wrap (x + y) = x + y := wr _ (by omega) (by omega)
  rw [loopO_eq]
  cases l with
  | nil => simp [purserref10_Split.l49, spec]
  | cons z rest =>
    obtain ⟨u, p⟩ := z
    obtain ⟨hp0, hp1, hu, hc'⟩ := chk_cons hc (by omega)
    have hu0 : 0 ≤ u ∧ u ≤ 1099511627776 := by rcases hu with ⟨_, h⟩ | ⟨_, h, h'⟩ <;> omega
    have hlt : ((0 : Int) < (((u, p) :: rest).length : Int)) := by simp
    have g2 : ((u, p) :: rest).getD (0 : Int).toNat (0, 0) = (u, p) := rfl
    have e2 : IntKind.i64.wrap ((0 : Int) + 1) = 1 := by rw [wr _ (by omega) (by omega)]; omega
    have next : ∀ acc' : List (Int × Int × Int), acc'.length ≤ 1 → loopO (purserref10_Split.l49 ((u, p) :: rest) x y) (acc', 1) = some (.inl (acc' ++ spec (x + y) (0 + 1) (if x < u then u else x) rest)) := by
      intro acc' ha
      have := ref_lines x y hx hy rest [] u p acc' hu0.1 hu0.2 hc' (by simpa using hn) (by simp at hn; omega)
      simpa using this
    have g0 : ¬ ((0 : Int) > 0) := by omega
    have hacc : ∀ z : Int × Int × Int, ([] : List (Int × Int × Int)).length + [z].length ≤ 1099511627776 := fun z => by simp
    simp only [purserref10_Split.l49, hlt, g0, e2, g2, exy, decide_true, cond_true, Int.le_refl, Bool.and_self, Bool.cond_eq_ite, decide_eq_true_eq, if_true, if_false, hacc]
    rw [spec]
    by_cases hup : u > 0
    · simp only [hup, if_true]
      by_cases hh : (if u < x + y then u else x + y) > x
      · simp only [hh, if_true, Option.bind_some]
        rw [next _ (by simp), wr _ (by split <;> omega) (by split <;> omega)]
        simp
      · simp only [hh, if_false, Option.bind_some]
        rw [next _ (by simp)]
    · simp only [hup, if_false]
      by_cases hh : (x + y) > x
      · simp only [hh, if_true, Option.bind_some]
        rw [next _ (by simp), wr _ (by omega) (by omega)]
        simp
      · simp only [hh, if_false, Option.bind_some]
        rw [next _ (by simp)]
theorem own_line (a b c : Int) (l : Tr) (i n : Int) (h0 : 0 ≤ i) (h1 : i < l.length) : tier_line.f a b c l i n = some (i, n, (l.getD i.toNat (0, 0)).2) := by
  simp [tier_line.f, h0, h1]
theorem own_lines (a b c : Int) (l : Tr) (hck : CK a b c l = 0) (hl9 : l.length ≤ 9) (suf : Tr) : ∀ (pre : Tr) (L pos n : Int) (acc : List (Int × Int × Int)), l = pre ++ suf → (∀ x ∈ pre, x.1 ≠ 0 ∧ x.1 ≤ pos) → 0 ≤ L → L ≤ pos → chk L suf = 0 → 0 ≤ n → n ≤ 1073741824 → pos ≤ 2199023255552 → (n = 0 ∨ suf ≠ []) → acc.length + suf.length ≤ 100 →
    loopO (tier_Split.l88 a b c l) (pos, n, acc) = some (.inl (acc ++ spec (pos + n) pre.length pos suf)) := by
  have over : ∀ pos acc', loopO (tier_Split.l88 a b c l) (pos, 0, acc') = some (.inl acc') := fun pos acc' => by
    rw [loopO_eq]
    simp [tier_Split.l88]
  induction suf with
  | nil =>
    intro pre L pos n acc hl hpre h0 hL hc hn hn' hpos hs ha
    obtain rfl : n = 0 := by simpa using hs
    rw [over]
    simp [spec]
  | cons z rest ih =>
    intro pre L pos n acc hl hpre h0 hL hc hn hn' hpos hs ha
    obtain ⟨u, p⟩ := z
    obtain ⟨hp0, hp1, hu, hc'⟩ := chk_cons hc h0
    by_cases hz : n = 0
    · subst hz
      rw [over, spec_none _ _ _ _ (by omega)]
      simp
    have hup : u = 0 ∧ rest = [] ∨ L < u ∧ u ≤ 1099511627776 ∧ rest ≠ [] := by rcases hu with ⟨a, b⟩ | ⟨a, b, c⟩ <;> simp_all
    by_cases hpass : u ≠ 0 ∧ u ≤ pos
    · have hu2 : L < u ∧ u ≤ 1099511627776 ∧ rest ≠ [] := by rcases hup with h | h <;> simp_all
      have := ih (pre ++ [(u, p)]) u pos n acc (by simp [hl]) (by
        intro x hx
        simp only [List.mem_append, List.mem_singleton] at hx
        rcases hx with hx | rfl
        · exact hpre x hx
        · exact hpass) (by omega) hpass.2 hc' hn hn' hpos (.inr hu2.2.2) (by simp at ha; omega)
      rw [this, spec, if_neg (by split <;> (try split) <;> omega), if_neg (by omega)]
      simp
    · have hi : IX a b c l (pos + 1) = (pre.length : Nat) := by
        rw [IX, if_neg (by omega), hl, idx_pass _ _ _ _ (fun x hx => ⟨(hpre x hx).1, by have := (hpre x hx).2; omega⟩), idx, if_pos (by omega)]
        simp
      have e1 : IntKind.i64.wrap (pos + 1) = pos + 1 := wr _ (by omega) (by omega)
      have hlen : l.length = pre.length + rest.length + 1 := by rw [hl]; simp; omega
      have hlt : ((pre.length : Nat) : Int) < (l.length : Int) := by omega
      have g : l.getD ((pre.length : Nat) : Int).toNat (0, 0) = (u, p) := by rw [hl]; exact getD_pre _ _ _ _
      have hng : n > 0 := by omega
      have eu : u > 0 → IntKind.i64.wrap (u - pos) = u - pos := fun _ => wr _ (by omega) (by rcases hup with h | h <;> omega)
      have hacc : ∀ z : Int × Int × Int, acc.length + [z].length ≤ 1099511627776 := fun z => by simp at ha ⊢; omega
      have ol : ∀ n, tier_line.f a b c l ((pre.length : Nat) : Int) n = some (((pre.length : Nat) : Int), n, p) := fun n => by
        rw [own_line _ _ _ _ _ _ (by omega) hlt, g]
      rw [loopO_eq]
      simp only [tier_Split.l88, own_index _ _ _ _ _ hl9, e1, hi, Option.bind_some, hng, hlt, g, decide_true, cond_true, Int.natCast_nonneg, Bool.and_self, Bool.cond_eq_ite, decide_eq_true_eq, if_true, hacc, ol]
      by_cases hu0 : u > 0
      · have hu2 : L < u ∧ u ≤ 1099511627776 ∧ rest ≠ [] := by rcases hup with h | h <;> first | omega | exact h
        simp only [hu0, if_true, eu hu0, Option.bind_some]
        have hlu : pos < u := by omega
        by_cases hm : u - pos < n
        · simp only [hm, if_true]
          rw [wr (pos + (u - pos)) (by omega) (by omega), wr (n - (u - pos)) (by omega) (by omega)]
          have := ih (pre ++ [(u, p)]) u (pos + (u - pos)) (n - (u - pos)) (acc ++ [(((pre.length : Nat) : Int), u - pos, p)]) (by simp [hl]) (by
            intro x hx
            simp only [List.mem_append, List.mem_singleton] at hx
            rcases hx with hx | rfl
            · have := hpre x hx; exact ⟨this.1, by omega⟩
            · exact ⟨by simp only; omega, by simp only; omega⟩) (by omega) (by omega) hc' (by omega) (by omega) (by omega) (.inr hu2.2.2) (by simp at ha ⊢; omega)
          rw [this, spec]
          rw [if_pos hu0, if_pos (show u < pos + n by omega), if_pos hlu, if_pos hlu]
          have q1 : pos + (u - pos) + (n - (u - pos)) = pos + n := by omega
          have q2 : pos + (u - pos) = u := by omega
          rw [q1, q2]
          simp
        · simp only [hm, if_false]
          rw [wr (n - n) (by omega) (by omega), Int.sub_self, over, spec, if_pos hu0, if_pos hlu]
          have q1 : (if u < pos + n then u else pos + n) = pos + n := by split <;> omega
          rw [q1, if_pos (show pos + n > pos by omega), spec_none _ _ _ _ (by omega)]
          have q2 : pos + n - pos = n := by omega
          rw [q2]
          simp
      · have hu2 : u = 0 ∧ rest = [] := by rcases hup with h | h <;> first | omega | exact h
        obtain ⟨rfl, rfl⟩ := hu2
        simp only [hu0, if_false, Option.bind_some]
        rw [wr (n - n) (by omega) (by omega), Int.sub_self, over, spec, if_neg hu0, if_pos (show pos + n > pos by omega)]
        have q2 : pos + n - pos = n := by omega
        rw [q2]
        simp [spec]

/-- The lines of a split, and what is wrong. -/
def SP (a b c : Int) (l : Tr) (x y : Int) : List (Int × Int × Int) × Int :=
  if CK a b c l ≠ 0 ∨ x < 0 ∨ x > 1099511627776 ∨ y < 0 ∨ y > 1073741824 then ([], 1)
  else if y = 0 then ([], 0)
  else if b = 2 then ([(idx (x + y) 0 l, y, (l.getD (idx (x + y) 0 l).toNat (0, 0)).2)], 0)
  else (spec (x + y) 0 x l, 0)
theorem CK_chk {a b c : Int} {l : Tr} (h : CK a b c l = 0) : chk 0 l = 0 ∧ l ≠ [] ∧ l.length ≤ 6 := by
  unfold CK at h
  split at h
  · cases h
  split at h
  · cases h
  split at h
  · cases h
  · rename_i h3
    refine ⟨h, ?_, by omega⟩
    rintro rfl
    simp at h3
theorem idx_in {a b c : Int} {l : Tr} (h : CK a b c l = 0) (k : Int) : 0 ≤ idx k 0 l ∧ idx k 0 l < l.length := by
  obtain ⟨h1, h2, h3⟩ := CK_chk h
  have := idx_there k l 0 0 (by omega) h2 h1
  omega
theorem ref_split (a b c : Int) (l : Tr) (x y : Int) (hl : l.length ≤ 9) : purserref10_Split.f a b c l x y = some (SP a b c l x y) := by
  simp only [purserref10_Split.f, ref_check, ref_index _ _ _ _ _ hl, Option.bind_some, Bool.cond_eq_ite, decide_eq_true_eq, bne_iff_ne, beq_iff_eq, SP]
  by_cases h1 : ¬ CK a b c l = 0
  · simp [h1]
  have h1 : CK a b c l = 0 := Decidable.of_not_not h1
  by_cases h2 : x < 0
  · simp [h1, h2]
  by_cases h3 : x > 1099511627776
  · simp [h1, h2, h3]
  by_cases h4 : y < 0
  · simp [h1, h2, h3, h4]
  by_cases h5 : y > 1073741824
  · simp [h1, h2, h3, h4, h5]
  have h6 : ¬ (CK a b c l ≠ 0 ∨ x < 0 ∨ x > 1099511627776 ∨ y < 0 ∨ y > 1073741824) := by simp only [h1]; omega
  rw [if_neg h6, if_neg h2, if_neg h3, if_neg h4, if_neg h5, if_neg (by simp [h1])]
  by_cases h7 : y = 0
  · simp [h7]
  rw [if_neg h7, if_neg h7]
  by_cases h8 : b = 2
  · rw [if_pos h8, if_pos h8, wr (x + y) (by omega) (by omega)]
    have hi := idx_in h1 (x + y)
    have : IX a b c l (x + y) = idx (x + y) 0 l := by rw [IX, if_neg (by omega)]
    rw [this]
    simp [hi]
  · rw [if_neg h8, if_neg h8, ref_lines0 x y (by omega) (by omega) l (CK_chk h1).1 hl]
    simp [purserref10_Split.j48]
theorem own_split (a b c : Int) (l : Tr) (x y : Int) (hl : l.length ≤ 9) : tier_Split.f a b c l x y = some (SP a b c l x y) := by
  have hM : tier_Split.l44 = tier_Split.l88 := rfl
  simp only [tier_Split.f, hM, own_check, own_index _ _ _ _ _ hl, Option.bind_some, Bool.cond_eq_ite, decide_eq_true_eq, bne_iff_ne, beq_iff_eq, SP]
  by_cases h1 : ¬ CK a b c l = 0
  · simp [h1]
  have h1 : CK a b c l = 0 := Decidable.of_not_not h1
  by_cases h2 : x < 0
  · simp [h1, h2]
  by_cases h3 : x > 1099511627776
  · simp [h1, h2, h3]
  by_cases h4 : y < 0
  · simp [h1, h2, h3, h4]
  by_cases h5 : y > 1073741824
  · simp [h1, h2, h3, h4, h5]
  have h6 : ¬ (CK a b c l ≠ 0 ∨ x < 0 ∨ x > 1099511627776 ∨ y < 0 ∨ y > 1073741824) := by simp only [h1]; omega
  have hL : loopO (tier_Split.l88 a b c l) (x, y, []) = some (.inl (spec (x + y) 0 x l)) := by
    have := own_lines a b c l h1 hl l [] 0 x y [] rfl (by simp) (by omega) (by omega) (CK_chk h1).1 (by omega) (by omega) (by omega) (.inr (CK_chk h1).2.1) (by simp; omega)
    simpa using this
  rw [if_neg h6, if_neg h2, if_neg h3, if_neg h4, if_neg h5, if_neg (by simp [h1])]
  simp only [hL, Option.bind_some, tier_Split.j43, tier_Split.j87]
  by_cases h7 : y = 0
  · have : spec (x + y) 0 x l = [] := spec_none _ _ _ _ (by omega)
    simp [h7] at this ⊢
    simp [this]
  rw [if_neg h7]
  by_cases h8 : b = 2
  · rw [if_pos h8, if_pos h8, wr (x + y) (by omega) (by omega), if_pos (by omega)]
    have hi := idx_in h1 (x + y)
    have : IX a b c l (x + y) = idx (x + y) 0 l := by rw [IX, if_neg (by omega)]
    rw [this, own_line _ _ _ _ _ _ hi.1 hi.2]
    simp
  · rw [if_neg h8, if_neg h8]
theorem own_tiers_ok : purserlaw10_tiers.f = some true := by
  simp only [purserlaw10_tiers.f, purserlaw10_two.f, Option.bind_some, own_split 1 1 1 [(10, 3), (0, 2)] 8 5 (by simp), own_split 1 2 1 [(10, 3), (0, 2)] 8 5 (by simp)]
  have h1 : SP 1 1 1 [(10, 3), (0, 2)] 8 5 = ([(0, 2, 3), (1, 3, 2)], 0) := by decide
  have h2 : SP 1 2 1 [(10, 3), (0, 2)] 8 5 = ([(1, 5, 2)], 0) := by decide
  rw [h1, h2]
  decide
theorem tame_eq (a b c : Int) (l : Tr) : purserlaw10_tame.f a b c l = some (a, b, c, l.take 9) := by
  have h : (if 9 < (l.length : Int) then 9 else (l.length : Int)).toNat = min 9 l.length := by split <;> omega
  have h1 : 0 ≤ (if 9 < (l.length : Int) then 9 else (l.length : Int)) := by split <;> omega
  have h2 : (if 9 < (l.length : Int) then 9 else (l.length : Int)) ≤ (l.length : Int) := by split <;> omega
  have h3 : l.take (min 9 l.length) = l.take 9 := by
    rw [List.take_eq_take_iff]; omega
  simp only [purserlaw10_tame.f, h1, h2, h, decide_true, cond_true, h3, List.drop_zero, List.nil_append]
  have h4 : ([] : Tr).length + (l.take 9).length ≤ 1099511627776 := by simp; omega
  rw [decide_eq_true h4]
  rfl
theorem same_self (s : List (Int × Int × Int)) : ∀ (pre : List (Int × Int × Int)), (pre ++ s).length ≤ 1099511627776 → loopO (purserref10_Same.l5 (pre ++ s) (pre ++ s)) pre.length = some (.inl ()) := by
  induction s with
  | nil => intro pre _; rw [loopO_eq]; simp [purserref10_Same.l5]
  | cons x s ih =>
    intro pre h
    have hl : (pre ++ x :: s).length = pre.length + s.length + 1 := by simp; omega
    have hlt : ((pre.length : Int) < ((pre ++ x :: s).length : Int)) := by omega
    have e2 : IntKind.i64.wrap ((pre.length : Int) + 1) = ((pre ++ [x]).length : Nat) := by rw [wr _ (by omega) (by omega)]; simp
    have := ih (pre ++ [x]) (by simpa using h)
    rw [loopO_eq]
    simp only [purserref10_Same.l5, hlt, e2, getD_pre, decide_true, cond_true, Int.natCast_nonneg, Bool.and_self, Bool.cond_eq_ite, beq_self_eq_true, Bool.not_true, Bool.false_eq_true, if_false, if_true, Option.bind_some]
    simpa using this
theorem same_lines (s : List (Int × Int × Int)) (h : s.length ≤ 1099511627776) : purserref10_Same.f s s = some true := by
  have := same_self s [] (by simpa using h)
  simp only [List.nil_append, List.length_nil] at this
  have this : loopO (purserref10_Same.l5 s s) 0 = some (.inl ()) := this
  simp [purserref10_Same.f, this, purserref10_Same.j4]
theorem same_tiers (s : Tr) : ∀ (pre : Tr), (pre ++ s).length ≤ 1099511627776 → loopO (purserref09_Same.l13 (pre ++ s) (pre ++ s)) pre.length = some (.inl ()) := by
  induction s with
  | nil => intro pre _; rw [loopO_eq]; simp [purserref09_Same.l13]
  | cons x s ih =>
    intro pre h
    have hl : (pre ++ x :: s).length = pre.length + s.length + 1 := by simp; omega
    have hlt : ((pre.length : Int) < ((pre ++ x :: s).length : Int)) := by omega
    have e2 : IntKind.i64.wrap ((pre.length : Int) + 1) = ((pre ++ [x]).length : Nat) := by rw [wr _ (by omega) (by omega)]; simp
    have := ih (pre ++ [x]) (by simpa using h)
    rw [loopO_eq]
    simp only [purserref09_Same.l13, hlt, e2, getD_pre, decide_true, cond_true, Int.natCast_nonneg, Bool.and_self, Bool.cond_eq_ite, beq_self_eq_true, Bool.not_true, Bool.false_eq_true, if_false, if_true, Option.bind_some]
    simpa using this
theorem same_tariff (a b c : Int) (s : Tr) (h : s.length ≤ 1099511627776) : purserref09_Same.f a b c s a b c s = some true := by
  have := same_tiers s [] (by simpa using h)
  simp only [List.nil_append, List.length_nil] at this
  have this : loopO (purserref09_Same.l13 s s) 0 = some (.inl ()) := this
  simp [purserref09_Same.f, this, purserref09_Same.j12]
theorem spec_len (e : Int) (suf : Tr) : ∀ i lo, (spec e i lo suf).length ≤ suf.length := by
  induction suf with
  | nil => intros; simp [spec]
  | cons x r ih =>
    intro i lo
    obtain ⟨u, p⟩ := x
    have := ih (i + 1) (if lo < u then u else lo)
    rw [spec]
    simp only [List.length_append, List.length_cons]
    generalize (if u > 0 then (if u < e then u else e) else e) = h
    by_cases hh : h > lo
    · rw [if_pos hh]; simp; omega
    · rw [if_neg hh]; simp; omega
theorem SP_len (a b c : Int) (l : Tr) (x y : Int) (hl : l.length ≤ 9) : (SP a b c l x y).1.length ≤ 9 := by
  unfold SP
  split
  · simp
  split
  · simp
  split
  · simp
  · have := spec_len (x + y) l 0 x
    simp only
    omega
end Go.Proofs.Ytencgpidlklenaa.Pure
