/- Plain laws of costs: what lines come to; bounds of the lines of a split. Conditions: as each line says. -/
import Derived.Test.YtijpigojhildgaaPa
namespace Go.Proofs.Ytijpigojhildgaa.Pure
open Go.Vk Go.Proofs.Ytijpigojhildgaa.Y
set_option linter.unusedVariables false
set_option linter.unusedSimpArgs false

abbrev Ln := List (Int × Int × Int)
def i64 (n : Int) : Prop := -9223372036854775808 ≤ n ∧ n ≤ 9223372036854775807
instance (n : Int) : Decidable (i64 n) := inferInstanceAs (Decidable (_ ∧ _))
def prod (x : Int × Int × Int) : Int := x.2.1 * x.2.2
/-- The products of all lines, if each is an int. -/
def prods : Ln → Option (List Int)
  | [] => some []
  | x :: l => if i64 (prod x) then (prods l).map (prod x :: ·) else none
theorem prods_i64 : ∀ {l : Ln} {ps : List Int}, prods l = some ps → (∀ x ∈ ps, i64 x) ∧ ps = l.map prod
  | [], ps, h => by
    simp only [prods, Option.some.injEq] at h
    subst h; simp
  | x :: l, ps, h => by
    simp only [prods] at h
    split at h
    · rename_i hp
      obtain ⟨qs, h1, rfl⟩ := Option.map_eq_some_iff.1 h
      obtain ⟨h2, h3⟩ := prods_i64 h1
      refine ⟨fun y hy => ?_, by rw [h3]; rfl⟩
      rcases List.mem_cons.1 hy with rfl | hy
      · exact hp
      · exact h2 y hy
    · cases h
/-- What lines come to. -/
def CO (l : Ln) : Int × Bool := match prods l with
  | some ps => FI (sumL ps)
  | none => (0, false)
def bl (l : Ln) : Int := sumL (l.map (fun x => x.2.1))
theorem cost_bound (D : Int) (hD : 0 ≤ D) : ∀ (l : Ln), (∀ x ∈ l, 0 ≤ x.2.1 ∧ 0 ≤ x.2.2 ∧ x.2.2 ≤ D) → 0 ≤ sumL (l.map prod) ∧ sumL (l.map prod) ≤ D * bl l ∧ 0 ≤ bl l
  | [], _ => by simp [sumL, bl]
  | x :: l, h => by
    obtain ⟨h1, h2, h3⟩ := h x (by simp)
    obtain ⟨k1, k2, k3⟩ := cost_bound D hD l (fun y hy => h y (by simp [hy]))
    have e1 : 0 ≤ prod x := Int.mul_nonneg h1 h2
    have e2 : prod x ≤ D * x.2.1 := by rw [Int.mul_comm D]; exact Int.mul_le_mul_of_nonneg_left h3 h1
    have e3 : bl (x :: l) = x.2.1 + bl l := rfl
    have e4 : sumL ((x :: l).map prod) = prod x + sumL (l.map prod) := rfl
    rw [e3, e4, Int.mul_add]
    omega
theorem prods_some (B : Int) (hB : B ≤ 9223372036854775807) : ∀ (l : Ln), (∀ x ∈ l, 0 ≤ prod x ∧ prod x ≤ B) → prods l = some (l.map prod)
  | [], _ => rfl
  | x :: l, h => by
    have hx := h x (by simp)
    rw [prods, if_pos (show i64 (prod x) from ⟨by omega, by omega⟩), prods_some B hB l (fun y hy => h y (by simp [hy]))]
    rfl
theorem CO_bound (D Y : Int) (hD : 0 ≤ D) (hD' : D ≤ 1048576) (hY : Y ≤ 1073741824) (l : Ln) (h : ∀ x ∈ l, 0 ≤ x.2.1 ∧ x.2.1 ≤ 1073741824 ∧ 0 ≤ x.2.2 ∧ x.2.2 ≤ D) (hb : bl l ≤ Y) : ∃ n, CO l = (n, true) ∧ 0 ≤ n ∧ n ≤ Y * D := by
  obtain ⟨k1, k2, k3⟩ := cost_bound D hD l (fun x hx => ⟨(h x hx).1, (h x hx).2.2.1, (h x hx).2.2.2⟩)
  have hp := prods_some (1073741824 * 1048576) (by decide) l (fun x hx => by
    obtain ⟨h1, h2, h3, h4⟩ := h x hx
    exact ⟨Int.mul_nonneg h1 h3, Int.mul_le_mul h2 (by omega) h3 (by omega)⟩)
  have e1 : D * bl l ≤ D * Y := Int.mul_le_mul_of_nonneg_left hb hD
  have e2 : D * Y ≤ 1048576 * 1073741824 := Int.mul_le_mul hD' hY (by omega) (by omega)
  refine ⟨sumL (l.map prod), ?_, k1, ?_⟩
  · unfold CO
    rw [hp]
    simp only
    unfold FI
    rw [if_pos (by omega)]
  · rw [Int.mul_comm Y]; omega
/-! ### the lines of a split -/
def maxP : Int → Tr → Int
  | d, [] => d
  | d, (_, p) :: r => maxP (if p > d then p else d) r
theorem maxP_ge : ∀ (l : Tr) (d : Int), d ≤ maxP d l ∧ ∀ x ∈ l, x.2 ≤ maxP d l
  | [], d => by simp [maxP]
  | (u, p) :: r, d => by
    rw [maxP]
    by_cases hpd : p > d
    · rw [if_pos hpd]
      obtain ⟨h1, h2⟩ := maxP_ge r p
      refine ⟨by omega, fun x hx => ?_⟩
      rcases List.mem_cons.1 hx with rfl | hx
      · exact h1
      · exact h2 x hx
    · rw [if_neg hpd]
      obtain ⟨h1, h2⟩ := maxP_ge r d
      refine ⟨by omega, fun x hx => ?_⟩
      rcases List.mem_cons.1 hx with rfl | hx
      · simp only; omega
      · exact h2 x hx
theorem maxP_le (B : Int) : ∀ (l : Tr) (d : Int), d ≤ B → (∀ x ∈ l, x.2 ≤ B) → maxP d l ≤ B
  | [], d, h, _ => h
  | (u, p) :: r, d, h, hx => by
    rw [maxP]
    have := hx (u, p) (by simp)
    exact maxP_le B r _ (by split <;> simp_all) (fun x hx' => hx x (by simp [hx']))
theorem chk_prices : ∀ {l : Tr} {prev : Int}, 0 ≤ prev → chk prev l = 0 → ∀ x ∈ l, 0 ≤ x.2 ∧ x.2 ≤ 1048576
  | [], _, _, _, x, hx => by cases hx
  | (u, p) :: r, prev, hp, hc, x, hx => by
    obtain ⟨h1, h2, h3, h4⟩ := chk_cons hc hp
    rcases List.mem_cons.1 hx with rfl | hx
    · exact ⟨h1, h2⟩
    · rcases h3 with ⟨hr, _⟩ | ⟨_, h5, _⟩
      · subst hr; cases hx
      · exact chk_prices (by omega) h4 x hx
theorem spec_in (e : Int) : ∀ (l : Tr) (i lo prev : Int), 0 ≤ prev → chk prev l = 0 → ∀ x ∈ spec e i lo l, 0 ≤ x.2.1 ∧ ∃ y ∈ l, y.2 = x.2.2
  | [], i, lo, _, _, _, x, hx => by cases hx
  | (u, p) :: r, i, lo, prev, hp, hc, x, hx => by
    obtain ⟨h1, h2, h3, h4⟩ := chk_cons hc hp
    rw [spec] at hx
    rcases List.mem_append.1 hx with hx | hx
    · by_cases hh : (if u > 0 then (if u < e then u else e) else e) > lo
      · rw [if_pos hh] at hx
        simp only [List.mem_singleton] at hx
        subst hx
        exact ⟨Int.le_of_lt (Int.sub_pos_of_lt hh), (u, p), by simp, rfl⟩
      · rw [if_neg hh] at hx; cases hx
    · rcases h3 with ⟨hr, _⟩ | ⟨_, h5, _⟩
      · subst hr; simp [spec] at hx
      · obtain ⟨k1, y, k2, k3⟩ := spec_in e r _ _ u (by omega) h4 x hx
        exact ⟨k1, y, by simp [k2], k3⟩
theorem bl_app (a b : Ln) : bl (a ++ b) = bl a + bl b := by
  induction a with
  | nil => simp [bl, sumL]
  | cons x a ih =>
    have h1 : bl (x :: a ++ b) = x.2.1 + bl (a ++ b) := rfl
    have h2 : bl (x :: a) = x.2.1 + bl a := rfl
    rw [h1, h2, ih]; omega
theorem spec_sum (e : Int) : ∀ (l : Tr) (i lo prev : Int), 0 ≤ prev → chk prev l = 0 → 0 ≤ lo → bl (spec e i lo l) ≤ (if lo ≤ e then e - lo else 0)
  | [], i, lo, _, _, _, _ => by simp [spec, bl, sumL]; split <;> omega
  | (u, p) :: r, i, lo, prev, hp, hc, hlo => by
    obtain ⟨h1, h2, h3, h4⟩ := chk_cons hc hp
    rw [spec, bl_app]
    have hs : ∀ (c : Prop) [Decidable c] (n q : Int), bl (if c then [(i, n, q)] else []) = if c then n else 0 := fun c _ n q => by
      split <;> simp [bl, sumL]
    rw [hs]
    rcases h3 with ⟨hr, hu⟩ | ⟨_, h5, _⟩
    · subst hr hu
      simp only [spec]
      have : bl [] = 0 := rfl
      rw [this]
      split <;> split <;> (try split) <;> omega
    · have := spec_sum e r (i + 1) (if lo < u then u else lo) u (by omega) h4 (by split <;> omega)
      split at this <;> split <;> (try split) <;> (try split) <;> (try split at *) <;> omega
theorem SP_in {a b c : Int} {l : Tr} {x y : Int} (hc : CK a b c l = 0) (hx : 0 ≤ x ∧ x ≤ 1099511627776) (hy : 0 ≤ y ∧ y ≤ 1073741824) :
    (SP a b c l x y).2 = 0 ∧ (∀ z ∈ (SP a b c l x y).1, 0 ≤ z.2.1 ∧ ∃ t ∈ l, t.2 = z.2.2) ∧ bl (SP a b c l x y).1 ≤ y := by
  obtain ⟨h1, h2, h3⟩ := CK_chk hc
  unfold SP
  rw [if_neg (by omega)]
  by_cases h4 : y = 0
  · rw [if_pos h4]
    exact ⟨rfl, (fun z hz => by simp at hz), (show (0 : Int) ≤ y from hy.1)⟩
  rw [if_neg h4]
  by_cases h5 : b = 2
  · rw [if_pos h5]
    refine ⟨rfl, fun z hz => ?_, by simp [bl, sumL]⟩
    simp only [List.mem_singleton] at hz
    subst hz
    obtain ⟨i1, i2⟩ := idx_in hc (x + y)
    refine ⟨hy.1, l.getD (idx (x + y) 0 l).toNat (0, 0), ?_, rfl⟩
    rw [List.getD_eq_getElem?_getD, List.getElem?_eq_getElem (by omega)]
    exact List.getElem_mem _
  · rw [if_neg h5]
    refine ⟨rfl, spec_in _ l 0 x 0 (by omega) h1, ?_⟩
    have := spec_sum (x + y) l 0 x 0 (by omega) h1 hx.1
    rw [if_pos (by omega)] at this
    simp only
    omega
theorem bl_each {B : Int} : ∀ {l : Ln}, (∀ x ∈ l, 0 ≤ x.2.1) → bl l ≤ B → ∀ x ∈ l, x.2.1 ≤ B
  | [], _, _, x, hx => by cases hx
  | y :: l, h, hb, x, hx => by
    have e : bl (y :: l) = y.2.1 + bl l := rfl
    have hy := h y (by simp)
    have hn : ∀ l : Ln, (∀ x ∈ l, 0 ≤ x.2.1) → 0 ≤ bl l := fun l hl => by
      induction l with
      | nil => simp [bl, sumL]
      | cons z l ih =>
        have e : bl (z :: l) = z.2.1 + bl l := rfl
        have := hl z (by simp)
        have := ih (fun x hx => hl x (by simp [hx]))
        omega
    have := hn l (fun x hx => h x (by simp [hx]))
    rcases List.mem_cons.1 hx with rfl | hx
    · omega
    · exact bl_each (fun x hx => h x (by simp [hx])) (by omega) x hx
theorem idx_mono {k k' : Int} (hk : k ≤ k') : ∀ (l : Tr) (i prev : Int), 0 ≤ prev → l ≠ [] → chk prev l = 0 → idx k i l ≤ idx k' i l
  | [], _, _, _, h, _ => absurd rfl h
  | (u, p) :: r, i, prev, hp, _, hc => by
    obtain ⟨h1, h2, h3, h4⟩ := chk_cons hc hp
    rw [idx, idx]
    by_cases c' : u = 0 ∨ k' ≤ u
    · rw [if_pos c', if_pos (by omega)]; exact Int.le_refl _
    rw [if_neg c']
    rcases h3 with ⟨_, h5⟩ | ⟨h5, h6, _⟩
    · exact absurd (.inl h5) c'
    by_cases c : u = 0 ∨ k ≤ u
    · rw [if_pos c]
      have := idx_there k' r u (i + 1) (by omega) h5 h4
      omega
    · rw [if_neg c]
      exact idx_mono hk r (i + 1) u (by omega) h5 h4
end Go.Proofs.Ytijpigojhildgaa.Pure
