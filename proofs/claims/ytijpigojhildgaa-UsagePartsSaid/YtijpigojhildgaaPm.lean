/- Plain laws of tariffs and of splits: what the program's functions and the document's functions compute is the same; no condition but what each line says. -/
import Derived.Test.YtijpigojhildgaaT1d
import Derived.IntWalk
namespace Go.Proofs.Ytijpigojhildgaa.Pure
open Go.Vk Go.Proofs.Ytijpigojhildgaa.Y
set_option linter.unusedVariables false
set_option linter.unusedSimpArgs false

theorem wr (n : Int) (h : -9223372036854775808 ≤ n) (h' : n ≤ 9223372036854775807) : IntKind.i64.wrap n = n := IntWalk.i64_in n ⟨h, h'⟩
abbrev Tr := List (Int × Int)
theorem getD_pre {α : Type} (pre : List α) (x : α) (suf : List α) (d : α) : (pre ++ x :: suf).getD ((pre.length : Int)).toNat d = x := by simp
theorem bt {α : Type} (c : Prop) [Decidable c] (x y : α) : (bif decide c then x else y) = if c then x else y := by by_cases h : c <;> simp [h]

theorem orB (c x : Bool) : (bif !c then some x else some true) = some (c || x) := by cases c <;> rfl
theorem andB (c x : Bool) : (bif c then some x else some false) = some (c && x) := by cases c <;> rfl
theorem within_eq (a b c : Int) : tariff_within.f a b c = some (decide (a ≥ b ∧ a ≤ c)) := by
  unfold tariff_within.f
  by_cases h : a ≥ b <;> simp [h]

/-- What is wrong with these tiers, behind one that goes as far as prev. -/
def chk : Int → Tr → Int
  | _, [] => 0
  | prev, (u, p) :: rest =>
    if p < 0 ∨ p > 1048576 then 1
    else if rest = [] then (if u ≠ 0 then 15 else 0)
    else if u ≤ prev ∨ u > 1099511627776 then 15 else chk u rest

theorem ref_tiers (a b c : Int) (suf : Tr) : ∀ (pre : Tr) (prev : Int) (hn : (pre ++ suf).length ≤ 9),
    loopO (purserref09_Check.l4 (a, b, c, pre ++ suf)) (prev, pre.length) = some (if chk prev suf = 0 then .inr () else .inl (chk prev suf)) := by
  induction suf with
  | nil =>
    intro pre prev hn
    rw [loopO_eq]
    simp [purserref09_Check.l4, chk]
  | cons x rest ih =>
    intro pre prev hn
    obtain ⟨u, p⟩ := x
    have hl : (pre ++ (u, p) :: rest).length = pre.length + rest.length + 1 := by simp; omega
    rw [hl] at hn
    have hlt : ((pre.length : Int) < ((pre ++ (u, p) :: rest).length : Int)) := by rw [hl]; omega
    have e1 : IntKind.i64.wrap (((pre ++ (u, p) :: rest).length : Int) - 1) = (pre.length + rest.length : Nat) := by rw [hl, wr _ (by omega) (by omega)]; omega
    have e2 : IntKind.i64.wrap ((pre.length : Int) + 1) = ((pre ++ [(u, p)]).length : Nat) := by rw [wr _ (by omega) (by omega)]; simp
    have e3 : pre ++ (u, p) :: rest = (pre ++ [(u, p)]) ++ rest := by simp
    rw [loopO_eq]
    simp only [purserref09_Check.l4, hlt, e1, e2, getD_pre, decide_true, cond_true, Int.natCast_nonneg, Bool.and_self, Bool.cond_eq_ite, decide_eq_true_eq, beq_iff_eq, bne_iff_ne]
    unfold chk
    by_cases h1 : p < 0
    · simp [h1]
    by_cases h2 : p > 1048576
    · simp [h1, h2]
    by_cases hr : rest = []
    · subst hr
      by_cases hu : u = 0
      · have := ih (pre ++ [(u, p)]) u (by simp; omega)
        simp only [List.append_nil, chk] at this
        simp [h1, h2, hu]
        simpa [hu] using this
      · simp [h1, h2, hu]
    · have hne : ¬ ((pre.length : Int) = ((pre.length + rest.length : Nat) : Int)) := by
        have : 0 < rest.length := List.length_pos_iff.2 hr
        omega
      by_cases h3 : u ≤ prev
      · simp only [h1, h2, hr, hne, h3, if_false, if_true, Option.bind_some, or_self, true_or]; rfl
      by_cases h4 : u > 1099511627776
      · simp only [h1, h2, hr, hne, h3, h4, if_false, if_true, Option.bind_some, or_self, or_true]; rfl
      simp only [h1, h2, hr, hne, h3, h4, if_false, Option.bind_some, or_self]
      rw [e3]
      exact ih (pre ++ [(u, p)]) u (by simp; omega)
theorem own_tiers (suf : Tr) : ∀ (pre : Tr) (prev : Int) (hp : -9223372036854775808 ≤ prev ∧ prev ≤ 1099511627776) (hn : (pre ++ suf).length ≤ 9),
    loopO (tariff_tiers.l1 (pre ++ suf)) (prev, pre.length) = some (if chk prev suf = 0 then .inr () else .inl (chk prev suf)) := by
  induction suf with
  | nil =>
    intro pre prev hp hn
    rw [loopO_eq]
    simp [tariff_tiers.l1, chk]
  | cons x rest ih =>
    intro pre prev hp hn
    obtain ⟨u, p⟩ := x
    have hl : (pre ++ (u, p) :: rest).length = pre.length + rest.length + 1 := by simp; omega
    rw [hl] at hn
    have hlt : ((pre.length : Int) < ((pre ++ (u, p) :: rest).length : Int)) := by rw [hl]; omega
    have e1 : IntKind.i64.wrap (((pre ++ (u, p) :: rest).length : Int) - 1) = (pre.length + rest.length : Nat) := by rw [hl, wr _ (by omega) (by omega)]; omega
    have e2 : IntKind.i64.wrap ((pre.length : Int) + 1) = ((pre ++ [(u, p)]).length : Nat) := by rw [wr _ (by omega) (by omega)]; simp
    have e3 : pre ++ (u, p) :: rest = (pre ++ [(u, p)]) ++ rest := by simp
    have e4 : IntKind.i64.wrap (prev + 1) = prev + 1 := wr _ (by omega) (by omega)
    rw [loopO_eq]
    simp only [tariff_tiers.l1, within_eq, Option.bind_some, hlt, e1, e2, e4, getD_pre, decide_true, cond_true, Int.natCast_nonneg, Bool.and_self, Bool.cond_eq_ite, decide_eq_true_eq, beq_iff_eq, bne_iff_ne]
    unfold chk
    by_cases h1 : p < 0
    · have : ¬ (p ≥ 0 ∧ p ≤ 1048576) := by omega
      simp [h1, this]
    by_cases h2 : p > 1048576
    · have : ¬ (p ≥ 0 ∧ p ≤ 1048576) := by omega
      simp [h1, h2, this]
    have h12 : p ≥ 0 ∧ p ≤ 1048576 := by omega
    by_cases hr : rest = []
    · subst hr
      by_cases hu : u = 0
      · have := ih (pre ++ [(u, p)]) u (by omega) (by simp; omega)
        simp only [List.append_nil, chk] at this
        simp [h1, h2, hu, h12]
        simpa [hu] using this
      · simp [h1, h2, hu, h12]
    · have hne : ¬ ((pre.length : Int) = ((pre.length + rest.length : Nat) : Int)) := by
        have : 0 < rest.length := List.length_pos_iff.2 hr
        omega
      have hne' : ((pre.length : Int) == ((pre.length + rest.length : Nat) : Int)) = false := by simpa using hne
      by_cases h3 : u ≤ prev
      · have h5 : ¬ (u ≥ prev + 1 ∧ u ≤ 1099511627776) := by omega
        simp only [h1, h2, hr, hne, h3, h12, h5, if_false, if_true, Option.bind_some, or_self, true_or, and_self, hne', Bool.not_true, Bool.not_false, decide_true, decide_false, Bool.false_eq_true, eq_self_iff_true]; rfl
      by_cases h4 : u > 1099511627776
      · have h5 : ¬ (u ≥ prev + 1 ∧ u ≤ 1099511627776) := by omega
        simp only [h1, h2, hr, hne, h3, h4, h12, h5, if_false, if_true, Option.bind_some, or_self, or_true, and_self, hne', Bool.not_true, Bool.not_false, decide_true, decide_false, Bool.false_eq_true, eq_self_iff_true]; rfl
      have h5 : (u ≥ prev + 1 ∧ u ≤ 1099511627776) := by omega
      simp only [h1, h2, hr, hne, h3, h4, h12, h5, if_false, if_true, Option.bind_some, or_self, and_self, hne', Bool.not_true, Bool.not_false, decide_true, decide_false, Bool.false_eq_true, eq_self_iff_true]
      rw [e3]
      exact ih (pre ++ [(u, p)]) u (by omega) (by simp; omega)

/-- What is wrong with a tariff. -/
def CK (a b c : Int) (l : Tr) : Int :=
  if a < 1 ∨ a > 8 ∨ c < 1 ∨ c > 1073741824 then 1 else if b ≠ 1 ∧ b ≠ 2 then 21 else if l.length < 1 ∨ l.length > 6 then 5 else chk 0 l
theorem md (b x : Int) : (if b = 1 then some x else if b = 2 then some x else some 21) = some (if ¬b = 1 ∧ ¬b = 2 then 21 else x) := by
  by_cases h : b = 1
  · simp [h]
  · by_cases h' : b = 2
    · simp [h']
    · simp [h, h']
theorem ref_check (a b c : Int) (l : Tr) : purserref09_Check.f (a, b, c, l) = some (CK a b c l) := by
  have hL : l.length ≤ 9 → loopO (purserref09_Check.l4 (a, b, c, l)) (0, 0) = some (if chk 0 l = 0 then .inr () else .inl (chk 0 l)) := fun h => by
    simpa using ref_tiers a b c l [] 0 (by simpa using h)
  simp only [purserref09_Check.f, orB, andB, Option.bind_some, CK]
  by_cases h1 : a < 1 ∨ a > 8 ∨ c < 1 ∨ c > 1073741824
  · rw [if_pos h1]
    have : (decide (a < 1) || (decide (a > 8) || (decide (c < 1) || decide (c > 1073741824)))) = true := by simpa using h1
    rw [this]; rfl
  have h1' : (decide (a < 1) || (decide (a > 8) || (decide (c < 1) || decide (c > 1073741824)))) = false := by simpa using h1
  rw [if_neg h1, h1', cond_false]
  by_cases h2 : b ≠ 1 ∧ b ≠ 2
  · rw [if_pos h2]
    have : (b != 1 && b != 2) = true := by simpa using h2
    rw [this]; rfl
  have h2' : (b != 1 && b != 2) = false := by
    cases h : (b != 1 && b != 2) with
    | false => rfl
    | true => exact absurd (by simpa using h) h2
  rw [if_neg h2, h2', cond_false]
  by_cases h3 : l.length < 1 ∨ l.length > 6
  · rw [if_pos h3]
    have : (decide ((l.length : Int) < 1) || decide ((l.length : Int) > 6)) = true := by simp; omega
    rw [this]; rfl
  have h3' : (decide ((l.length : Int) < 1) || decide ((l.length : Int) > 6)) = false := by simp; omega
  rw [if_neg h3, h3', cond_false, hL (by omega), Option.bind_some]
  by_cases h0 : chk 0 l = 0 <;> simp [h0]
theorem own_check (a b c : Int) (l : Tr) : tariff_Check.f (a, b, c, l) = some (CK a b c l) := by
  have hT : l.length ≤ 9 → tariff_tiers.f l = some (chk 0 l) := fun h => by
    have := own_tiers l [] 0 (by omega) (by simpa using h)
    simp only [List.nil_append, List.length_nil] at this
    unfold tariff_tiers.f
    show (loopO (tariff_tiers.l1 l) (0, ((0 : Nat) : Int))).bind _ = _
    rw [this]
    by_cases h0 : chk 0 l = 0 <;> simp [h0]
  simp only [tariff_Check.f, within_eq, Option.bind_some, orB, andB, CK]
  by_cases h1 : a < 1 ∨ a > 8 ∨ c < 1 ∨ c > 1073741824
  · rw [if_pos h1]
    have : ((!decide (a ≥ 1 ∧ a ≤ 8)) || (!decide (c ≥ 1 ∧ c ≤ 1073741824))) = true := by simp; omega
    rw [this]; rfl
  have h1' : ((!decide (a ≥ 1 ∧ a ≤ 8)) || (!decide (c ≥ 1 ∧ c ≤ 1073741824))) = false := by simp; omega
  rw [if_neg h1, h1', cond_false]
  by_cases h2 : b ≠ 1 ∧ b ≠ 2
  · rw [if_pos h2]
    have : (b != 1 && b != 2) = true := by simpa using h2
    rw [this]; rfl
  have h2' : (b != 1 && b != 2) = false := by
    cases h : (b != 1 && b != 2) with
    | false => rfl
    | true => exact absurd (by simpa using h) h2
  rw [if_neg h2, h2', cond_false]
  by_cases h3 : l.length < 1 ∨ l.length > 6
  · rw [if_pos h3]
    have : (!decide ((l.length : Int) ≥ 1 ∧ (l.length : Int) ≤ 6)) = true := by simp; omega
    rw [this]; rfl
  have h3' : (!decide ((l.length : Int) ≥ 1 ∧ (l.length : Int) ≤ 6)) = false := by simp; omega
  rw [if_neg h3, h3', cond_false, hT (by omega)]
  rfl

/-- The first tier, counted from i on, in which a block is. -/
def idx (k : Int) : Int → Tr → Int
  | _, [] => -1
  | i, (u, _) :: r => if u = 0 ∨ k ≤ u then i else idx k (i + 1) r
theorem own_idx (t : Int × Int × Int × Tr) (k : Int) (suf : Tr) : ∀ (pre : Tr), t.2.2.2 = pre ++ suf → (pre ++ suf).length ≤ 9 →
    (loopO (tier_Index.l3 t k) pre.length).bind (fun b => match b with | .inl e => some e | .inr _ => some (-1)) = some (idx k pre.length suf) := by
  induction suf with
  | nil =>
    intro pre ht hn
    rw [loopO_eq]
    simp [tier_Index.l3, idx, ht]
  | cons x rest ih =>
    intro pre ht hn
    obtain ⟨u, p⟩ := x
    have hl : (pre ++ (u, p) :: rest).length = pre.length + rest.length + 1 := by simp; omega
    rw [hl] at hn
    have hlt : ((pre.length : Int) < ((pre ++ (u, p) :: rest).length : Int)) := by rw [hl]; omega
    have e2 : IntKind.i64.wrap ((pre.length : Int) + 1) = ((pre ++ [(u, p)]).length : Nat) := by rw [wr _ (by omega) (by omega)]; simp
    have e3 : pre ++ (u, p) :: rest = (pre ++ [(u, p)]) ++ rest := by simp
    have e4 : (pre.length : Int) + 1 = ((pre ++ [(u, p)]).length : Nat) := by simp
    rw [loopO_eq]
    simp only [tier_Index.l3, ht, hlt, e2, getD_pre, decide_true, cond_true, Int.natCast_nonneg, Bool.and_self, orB, Option.bind_some]
    unfold idx
    by_cases h1 : u = 0
    · simp [h1]
    by_cases h2 : k ≤ u
    · simp [h2]
    have h3 : ((u == 0) || decide (k ≤ u)) = false := by simp only [Bool.or_eq_false_iff, beq_eq_false_iff_ne, decide_eq_false_iff_not]; exact ⟨h1, h2⟩
    rw [h3, if_neg (by omega), cond_false]
    simp only [Option.bind_some]
    rw [e4]
    exact ih (pre ++ [(u, p)]) (by rw [ht, e3]) (by simp; omega)
/-- A block's tier. -/
def IX (a b c : Int) (l : Tr) (k : Int) : Int := if CK a b c l ≠ 0 ∨ k < 1 then -1 else idx k 0 l
theorem own_index (a b c : Int) (l : Tr) (k : Int) (hl : l.length ≤ 9) : tier_Index.f (a, b, c, l) k = some (IX a b c l k) := by
  have := own_idx (a, b, c, l) k l [] rfl (by simpa using hl)
  simp only [tier_Index.f, own_check, Option.bind_some, orB, IX]
  by_cases h : CK a b c l ≠ 0 ∨ k < 1
  · have h' : (decide (k < 1) || CK a b c l != 0) = true := by
      simp only [Bool.or_eq_true, decide_eq_true_eq, bne_iff_ne]; exact h.symm
    rw [if_pos h, h']; rfl
  · have h' : (decide (k < 1) || CK a b c l != 0) = false := by
      cases hb : (decide (k < 1) || CK a b c l != 0) with
      | false => rfl
      | true =>
        simp only [Bool.or_eq_true, decide_eq_true_eq, bne_iff_ne] at hb
        exact absurd hb.symm h
    rw [if_neg h, h', cond_false]
    exact this

theorem chk_cons {prev u p : Int} {rest : Tr} (h : chk prev ((u, p) :: rest) = 0) (hp : 0 ≤ prev) :
    0 ≤ p ∧ p ≤ 1048576 ∧ ((rest = [] ∧ u = 0) ∨ (rest ≠ [] ∧ prev < u ∧ u ≤ 1099511627776)) ∧ chk u rest = 0 := by
  unfold chk at h
  by_cases h1 : p < 0 ∨ p > 1048576
  · simp [h1] at h
  rw [if_neg h1] at h
  by_cases hr : rest = []
  · subst hr
    by_cases hu : u = 0
    · exact ⟨by omega, by omega, .inl ⟨rfl, hu⟩, by simp [chk]⟩
    · simp [hu] at h
  · rw [if_neg hr] at h
    by_cases h2 : u ≤ prev ∨ u > 1099511627776
    · simp [h2] at h
    · rw [if_neg h2] at h
      exact ⟨by omega, by omega, .inr ⟨hr, by omega, by omega⟩, h⟩
theorem idx_pass (k : Int) (suf : Tr) : ∀ (pre : Tr) (i : Int), (∀ x ∈ pre, x.1 ≠ 0 ∧ x.1 < k) → idx k i (pre ++ suf) = idx k (i + pre.length) suf
  | [], i, _ => by simp
  | (u, p) :: pre, i, h => by
    have hx := h (u, p) (by simp)
    simp only at hx
    rw [List.cons_append, idx, if_neg (by omega), idx_pass k suf pre (i + 1) (fun x hx => h x (by simp [hx]))]
    congr 1
    simp
    omega
theorem idx_there (k : Int) (suf : Tr) : ∀ (prev i : Int), 0 ≤ prev → suf ≠ [] → chk prev suf = 0 → i ≤ idx k i suf ∧ idx k i suf < i + suf.length := by
  induction suf with
  | nil => intro _ _ _ h; exact absurd rfl h
  | cons x rest ih =>
    intro prev i hp _ hc
    obtain ⟨u, p⟩ := x
    obtain ⟨_, _, h3, h4⟩ := chk_cons hc hp
    unfold idx
    by_cases h : u = 0 ∨ k ≤ u
    · rw [if_pos h]; simp; omega
    · rw [if_neg h]
      rcases h3 with ⟨_, h5⟩ | ⟨h5, h6, _⟩
      · exact absurd (.inl h5) h
      · have := ih u (i + 1) (by omega) h5 h4
        simp only [List.length_cons]
        omega

/-- The lines from lo on to e, of tiers counted from i on. -/
def spec (e : Int) : Int → Int → Tr → List (Int × Int × Int)
  | _, _, [] => []
  | i, lo, (u, p) :: r =>
    (if (if u > 0 then (if u < e then u else e) else e) > lo then [(i, (if u > 0 then (if u < e then u else e) else e) - lo, p)] else []) ++ spec e (i + 1) (if lo < u then u else lo) r
theorem spec_none (e : Int) (suf : Tr) : ∀ (i lo : Int), e ≤ lo → spec e i lo suf = [] := by
  induction suf with
  | nil => intros; rfl
  | cons x rest ih =>
    intro i lo h
    obtain ⟨u, p⟩ := x
    unfold spec
    rw [if_neg (by split <;> (try split) <;> omega), ih _ _ (by split <;> omega)]
    rfl

theorem own_line (a b c : Int) (l : Tr) (i n : Int) (h0 : 0 ≤ i) (h1 : i < l.length) : tier_line.f (a, b, c, l) i n = some (i, n, (l.getD i.toNat (0, 0)).2) := by
  simp [tier_line.f, h0, h1]
theorem own_lines (a b c : Int) (l : Tr) (hck : CK a b c l = 0) (hl9 : l.length ≤ 9) (suf : Tr) : ∀ (pre : Tr) (L pos n : Int) (acc : List (Int × Int × Int)), l = pre ++ suf → (∀ x ∈ pre, x.1 ≠ 0 ∧ x.1 ≤ pos) → 0 ≤ L → L ≤ pos → chk L suf = 0 → 0 ≤ n → n ≤ 1073741824 → pos ≤ 2199023255552 → (n = 0 ∨ suf ≠ []) → acc.length + suf.length ≤ 100 →
    loopO (tier_Split.l6 (a, b, c, l)) (pos, n, acc) = some (acc ++ spec (pos + n) pre.length pos suf) := by
  have over : ∀ pos acc', loopO (tier_Split.l6 (a, b, c, l)) (pos, 0, acc') = some acc' := fun pos acc' => by
    rw [loopO_eq]
    simp [tier_Split.l6]
  induction suf with
  | nil =>
    intro pre L pos n acc hl hpre h0 hL hc hn hn' hpos hs ha
    obtain rfl : n = 0 := by simpa using hs
    rw [over]
    simp [spec]
  | cons z rest ih =>
    intro pre L pos n acc hl hpre h0 hL hc hn hn' hpos hs ha
    obtain ⟨u, p⟩ := z
    obtain ⟨hp0, hp1, hu, hc'⟩ := chk_cons hc h0
    by_cases hz : n = 0
    · subst hz
      rw [over, spec_none _ _ _ _ (by omega)]
      simp
    have hup : u = 0 ∧ rest = [] ∨ L < u ∧ u ≤ 1099511627776 ∧ rest ≠ [] := by rcases hu with ⟨a, b⟩ | ⟨a, b, c⟩ <;> simp_all
    by_cases hpass : u ≠ 0 ∧ u ≤ pos
    · have hu2 : L < u ∧ u ≤ 1099511627776 ∧ rest ≠ [] := by rcases hup with h | h <;> simp_all
      have := ih (pre ++ [(u, p)]) u pos n acc (by simp [hl]) (by
        intro x hx
        simp only [List.mem_append, List.mem_singleton] at hx
        rcases hx with hx | rfl
        · exact hpre x hx
        · exact hpass) (by omega) hpass.2 hc' hn hn' hpos (.inr hu2.2.2) (by simp at ha; omega)
      rw [this, spec, if_neg (by split <;> (try split) <;> omega), if_neg (by omega)]
      simp
    · have hi : IX a b c l (pos + 1) = (pre.length : Nat) := by
        rw [IX, if_neg (by omega), hl, idx_pass _ _ _ _ (fun x hx => ⟨(hpre x hx).1, by have := (hpre x hx).2; omega⟩), idx, if_pos (by omega)]
        simp
      have e1 : IntKind.i64.wrap (pos + 1) = pos + 1 := wr _ (by omega) (by omega)
      have hlen : l.length = pre.length + rest.length + 1 := by rw [hl]; simp; omega
      have hlt : ((pre.length : Nat) : Int) < (l.length : Int) := by omega
      have g : l.getD ((pre.length : Nat) : Int).toNat (0, 0) = (u, p) := by rw [hl]; exact getD_pre _ _ _ _
      have hng : n > 0 := by omega
      have eu : u > 0 → IntKind.i64.wrap (u - pos) = u - pos := fun _ => wr _ (by omega) (by rcases hup with h | h <;> omega)
      have hacc : ∀ z : Int × Int × Int, acc.length + [z].length ≤ 1099511627776 := fun z => by simp at ha ⊢; omega
      have ol : ∀ n, tier_line.f (a, b, c, l) ((pre.length : Nat) : Int) n = some (((pre.length : Nat) : Int), n, p) := fun n => by
        rw [own_line _ _ _ _ _ _ (by omega) hlt, g]
      rw [loopO_eq]
      simp only [tier_Split.l6, own_index _ _ _ _ _ hl9, e1, hi, Option.bind_some, hng, hlt, g, decide_true, cond_true, Int.natCast_nonneg, Bool.and_self, Bool.cond_eq_ite, decide_eq_true_eq, if_true, hacc, ol]
      by_cases hu0 : u > 0
      · have hu2 : L < u ∧ u ≤ 1099511627776 ∧ rest ≠ [] := by rcases hup with h | h <;> first | omega | exact h
        simp only [hu0, if_true, eu hu0, Option.bind_some]
        have hlu : pos < u := by omega
        by_cases hm : u - pos < n
        · simp only [hm, if_true]
          rw [wr (pos + (u - pos)) (by omega) (by omega), wr (n - (u - pos)) (by omega) (by omega)]
          have := ih (pre ++ [(u, p)]) u (pos + (u - pos)) (n - (u - pos)) (acc ++ [(((pre.length : Nat) : Int), u - pos, p)]) (by simp [hl]) (by
            intro x hx
            simp only [List.mem_append, List.mem_singleton] at hx
            rcases hx with hx | rfl
            · have := hpre x hx; exact ⟨this.1, by omega⟩
            · exact ⟨by simp only; omega, by simp only; omega⟩) (by omega) (by omega) hc' (by omega) (by omega) (by omega) (.inr hu2.2.2) (by simp at ha ⊢; omega)
          rw [this, spec]
          rw [if_pos hu0, if_pos (show u < pos + n by omega), if_pos hlu, if_pos hlu]
          have q1 : pos + (u - pos) + (n - (u - pos)) = pos + n := by omega
          have q2 : pos + (u - pos) = u := by omega
          rw [q1, q2]
          simp
        · simp only [hm, if_false]
          rw [wr (n - n) (by omega) (by omega), Int.sub_self, over, spec, if_pos hu0, if_pos hlu]
          have q1 : (if u < pos + n then u else pos + n) = pos + n := by split <;> omega
          rw [q1, if_pos (show pos + n > pos by omega), spec_none _ _ _ _ (by omega)]
          have q2 : pos + n - pos = n := by omega
          rw [q2]
          simp
      · have hu2 : u = 0 ∧ rest = [] := by rcases hup with h | h <;> first | omega | exact h
        obtain ⟨rfl, rfl⟩ := hu2
        simp only [hu0, if_false, Option.bind_some]
        rw [wr (n - n) (by omega) (by omega), Int.sub_self, over, spec, if_neg hu0, if_pos (show pos + n > pos by omega)]
        have q2 : pos + n - pos = n := by omega
        rw [q2]
        simp [spec]

/-- The lines of a split, and what is wrong. -/
def SP (a b c : Int) (l : Tr) (x y : Int) : List (Int × Int × Int) × Int :=
  if CK a b c l ≠ 0 ∨ x < 0 ∨ x > 1099511627776 ∨ y < 0 ∨ y > 1073741824 then ([], 1)
  else if y = 0 then ([], 0)
  else if b = 2 then ([(idx (x + y) 0 l, y, (l.getD (idx (x + y) 0 l).toNat (0, 0)).2)], 0)
  else (spec (x + y) 0 x l, 0)
theorem CK_chk {a b c : Int} {l : Tr} (h : CK a b c l = 0) : chk 0 l = 0 ∧ l ≠ [] ∧ l.length ≤ 6 := by
  unfold CK at h
  split at h
  · cases h
  split at h
  · cases h
  split at h
  · cases h
  · rename_i h3
    refine ⟨h, ?_, by omega⟩
    rintro rfl
    simp at h3
theorem idx_in {a b c : Int} {l : Tr} (h : CK a b c l = 0) (k : Int) : 0 ≤ idx k 0 l ∧ idx k 0 l < l.length := by
  obtain ⟨h1, h2, h3⟩ := CK_chk h
  have := idx_there k l 0 0 (by omega) h2 h1
  omega
theorem own_split (a b c : Int) (l : Tr) (x y : Int) (hl : l.length ≤ 9) : tier_Split.f (a, b, c, l) x y = some (SP a b c l x y) := by
  simp only [tier_Split.f, own_check, own_index _ _ _ _ _ hl, Option.bind_some, orB, andB, SP]
  by_cases h6 : CK a b c l ≠ 0 ∨ x < 0 ∨ x > 1099511627776 ∨ y < 0 ∨ y > 1073741824
  · rw [if_pos h6]
    have : (CK a b c l != 0 || (decide (x < 0) || (decide (x > 1099511627776) || (decide (y < 0) || decide (y > 1073741824))))) = true := by simpa using h6
    rw [this]; rfl
  have h6' : (CK a b c l != 0 || (decide (x < 0) || (decide (x > 1099511627776) || (decide (y < 0) || decide (y > 1073741824))))) = false := by
    cases hb : (CK a b c l != 0 || (decide (x < 0) || (decide (x > 1099511627776) || (decide (y < 0) || decide (y > 1073741824))))) with
    | false => rfl
    | true => exact absurd (by simpa using hb) h6
  have h1 : CK a b c l = 0 := by
    apply Classical.byContradiction
    intro h; exact h6 (.inl h)
  have hL : loopO (tier_Split.l6 (a, b, c, l)) (x, y, []) = some (spec (x + y) 0 x l) := by
    have := own_lines a b c l h1 hl l [] 0 x y [] rfl (by simp) (by omega) (by omega) (CK_chk h1).1 (by omega) (by omega) (by omega) (.inr (CK_chk h1).2.1) (by simp; omega)
    simpa using this
  rw [if_neg h6, h6', cond_false, hL]
  by_cases h7 : y = 0
  · have : spec (x + y) 0 x l = [] := spec_none _ _ _ _ (by omega)
    rw [if_pos h7]
    have h9 : (b == 2 && decide (y > 0)) = false := by subst h7; simp
    rw [h9]
    simp [this]
  rw [if_neg h7]
  by_cases h8 : b = 2
  · have h9 : (b == 2 && decide (y > 0)) = true := by simp [h8]; omega
    have hi := idx_in h1 (x + y)
    have hIX : IX a b c l (x + y) = idx (x + y) 0 l := by rw [IX, if_neg (by omega)]
    rw [if_pos h8, h9, cond_true, wr (x + y) (by omega) (by omega), hIX, own_line _ _ _ _ _ _ hi.1 hi.2]
    rfl
  · have h9 : (b == 2 && decide (y > 0)) = false := by simp [h8]
    rw [if_neg h8, h9]
    rfl
theorem own_tiers_ok : purserlaw10_tiers.f = some true := by
  simp only [purserlaw10_tiers.f, purserlaw10_two.f, Option.bind_some, own_split 1 1 1 [(10, 3), (0, 2)] 8 5 (by simp), own_split 1 2 1 [(10, 3), (0, 2)] 8 5 (by simp)]
  have h1 : SP 1 1 1 [(10, 3), (0, 2)] 8 5 = ([(0, 2, 3), (1, 3, 2)], 0) := by decide
  have h2 : SP 1 2 1 [(10, 3), (0, 2)] 8 5 = ([(1, 5, 2)], 0) := by decide
  rw [h1, h2]
  decide
theorem tame_eq (a b c : Int) (l : Tr) : purserlaw10_tame.f (a, b, c, l) = some (a, b, c, l.take 9) := by
  have h : (if 9 < (l.length : Int) then 9 else (l.length : Int)).toNat = min 9 l.length := by split <;> omega
  have h1 : 0 ≤ (if 9 < (l.length : Int) then 9 else (l.length : Int)) := by split <;> omega
  have h2 : (if 9 < (l.length : Int) then 9 else (l.length : Int)) ≤ (l.length : Int) := by split <;> omega
  have h3 : l.take (min 9 l.length) = l.take 9 := by
    rw [List.take_eq_take_iff]; omega
  simp only [purserlaw10_tame.f, h1, h2, h, decide_true, cond_true, h3, Int.toNat_zero, Int.le_refl, Bool.and_self, List.drop_zero, List.nil_append]
  have h4 : ([] : Tr).length + (l.take 9).length ≤ 1099511627776 := by simp; omega
  rw [decide_eq_true h4]
  rfl
theorem spec_len (e : Int) (suf : Tr) : ∀ i lo, (spec e i lo suf).length ≤ suf.length := by
  induction suf with
  | nil => intros; simp [spec]
  | cons x r ih =>
    intro i lo
    obtain ⟨u, p⟩ := x
    have := ih (i + 1) (if lo < u then u else lo)
    rw [spec]
    simp only [List.length_append, List.length_cons]
    generalize (if u > 0 then (if u < e then u else e) else e) = h
    by_cases hh : h > lo
    · rw [if_pos hh]; simp; omega
    · rw [if_neg hh]; simp; omega
theorem SP_len (a b c : Int) (l : Tr) (x y : Int) (hl : l.length ≤ 9) : (SP a b c l x y).1.length ≤ 9 := by
  unfold SP
  split
  · simp
  split
  · simp
  split
  · simp
  · have := spec_len (x + y) l 0 x
    simp only
    omega
end Go.Proofs.Ytijpigojhildgaa.Pure
