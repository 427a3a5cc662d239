/- Heaps: what one step of a heap's up and down keeps (plain). No statement of its own. -/
namespace Go.Hp
variable {α : Type} (lt : α → α → Bool)
/-- two places change -/
def sw (h : Nat → α) (i j : Nat) : Nat → α := fun k => if k = i then h j else if k = j then h i else h k
/-- a heap of n -/
def Heap (h : Nat → α) (n : Nat) : Prop := ∀ i, 0 < i → i < n → lt (h i) (h ((i - 1) / 2)) = false
/-- a heap but for the place j, which may be too small -/
def UpI (h : Nat → α) (n j : Nat) : Prop := (∀ i, 0 < i → i < n → i ≠ j → lt (h i) (h ((i - 1) / 2)) = false) ∧ ∀ c, 0 < c → c < n → (c - 1) / 2 = j → 0 < j → lt (h c) (h ((j - 1) / 2)) = false
/-- a heap but for the place j, which may be too great -/
def DnI (h : Nat → α) (n j : Nat) : Prop := (∀ i, 0 < i → i < n → (i - 1) / 2 ≠ j → lt (h i) (h ((i - 1) / 2)) = false) ∧ ∀ c, 0 < c → c < n → (c - 1) / 2 = j → 0 < j → lt (h c) (h ((j - 1) / 2)) = false
/-- an order -/
structure Ord : Prop where
  irr : ∀ a, lt a a = false
  trans : ∀ a b c, lt a b = true → lt b c = true → lt a c = true
  tot : ∀ a b c, lt a b = true → lt a c = true ∨ lt c b = true
variable {lt}
theorem Ord.asym (o : Ord lt) {a b : α} (h : lt a b = true) : lt b a = false := by
  cases h2 : lt b a with
  | false => rfl
  | true => have := o.trans a b a h h2; rw [o.irr] at this; cases this
/-- not below what is not below -/
theorem Ord.nlt (o : Ord lt) {a b c : α} (h : lt a b = false) (k : lt b c = false) : lt a c = false := by
  cases h2 : lt a c with
  | false => rfl
  | true =>
    rcases o.tot a c b h2 with h3 | h3
    · rw [h] at h3; cases h3
    · rw [k] at h3; cases h3
theorem upI_done (h : Nat → α) {n j : Nat} (u : UpI lt h n j) (hj : j = 0 ∨ lt (h j) (h ((j - 1) / 2)) = false) : Heap lt h n := by
  intro i h0 hn
  by_cases e : i = j
  · subst e
    rcases hj with hj | hj
    · omega
    · exact hj
  · exact u.1 i h0 hn e
theorem upI_step (o : Ord lt) (h : Nat → α) {n j : Nat} (hj : j < n) (h0 : 0 < j) (u : UpI lt h n j) (hl : lt (h j) (h ((j - 1) / 2)) = true) : UpI lt (sw h ((j - 1) / 2) j) n ((j - 1) / 2) := by
  have hp : (j - 1) / 2 < j := by omega
  refine ⟨fun i i0 hn hi => ?_, fun c c0 hn hc hp0 => ?_⟩
  · unfold sw
    rw [if_neg hi]
    by_cases e : i = j
    · subst e
      rw [if_pos rfl, if_pos rfl]
      exact o.asym hl
    · rw [if_neg e]
      by_cases e1 : (i - 1) / 2 = (j - 1) / 2
      · rw [if_pos e1]
        have h1 := u.1 i i0 hn e
        rw [e1] at h1
        exact o.nlt h1 (o.asym hl)
      · rw [if_neg e1]
        by_cases e2 : (i - 1) / 2 = j
        · rw [if_pos e2]
          exact u.2 i i0 hn e2 h0
        · rw [if_neg e2]
          exact u.1 i i0 hn e
  · unfold sw
    rw [if_neg (show c ≠ (j - 1) / 2 by omega)]
    rw [if_neg (show ((j - 1) / 2 - 1) / 2 ≠ (j - 1) / 2 by omega), if_neg (show ((j - 1) / 2 - 1) / 2 ≠ j by omega)]
    have hpp := u.1 ((j - 1) / 2) hp0 (by omega) (by omega)
    by_cases e : c = j
    · rw [if_pos e]
      exact hpp
    · rw [if_neg e]
      have h1 := u.1 c c0 hn e
      rw [hc] at h1
      exact o.nlt h1 hpp
theorem dnI_done (h : Nat → α) {n j : Nat} (d : DnI lt h n j) (hj : ∀ c, 0 < c → c < n → (c - 1) / 2 = j → lt (h c) (h j) = false) : Heap lt h n := by
  intro i h0 hn
  by_cases e : (i - 1) / 2 = j
  · rw [e]; exact hj i h0 hn e
  · exact d.1 i h0 hn e
/-- The first one is the least. -/
theorem heap_min (o : Ord lt) (h : Nat → α) {n : Nat} (hh : Heap lt h n) : ∀ i, i < n → lt (h i) (h 0) = false := by
  intro i
  induction i using Nat.strongRecOn with
  | _ i ih =>
    intro hi
    by_cases e : i = 0
    · subst e; exact o.irr _
    · exact o.nlt (hh i (by omega) hi) (ih ((i - 1) / 2) (by omega) (by omega))
/-- a heap but for the place j, of which nothing is known -/
def FixI (lt : α → α → Bool) (h : Nat → α) (n j : Nat) : Prop := (∀ i, 0 < i → i < n → i ≠ j → (i - 1) / 2 ≠ j → lt (h i) (h ((i - 1) / 2)) = false) ∧ ∀ c, 0 < c → c < n → (c - 1) / 2 = j → 0 < j → lt (h c) (h ((j - 1) / 2)) = false
theorem fixI_of (o : Ord lt) {h h' : Nat → α} {m n j : Nat} (hh : Heap lt h m) (hn : n ≤ m) (hj : j < m) (he : ∀ k, k ≠ j → k < n → h' k = h k) : FixI lt h' n j := by
  refine ⟨fun i i0 hi e1 e2 => ?_, fun c c0 hc e h0 => ?_⟩
  · rw [he i e1 hi, he _ e2 (by omega)]
    exact hh i i0 (by omega)
  · rw [he c (by omega) hc, he ((j - 1) / 2) (by omega) (by omega)]
    have h1 := hh c c0 (by omega)
    rw [e] at h1
    exact o.nlt h1 (hh j h0 hj)
theorem fixI_done {h : Nat → α} {n j : Nat} (f : FixI lt h n j) (hj : ∀ c, 0 < c → c < n → (c - 1) / 2 = j → lt (h c) (h j) = false) : UpI lt h n j := by
  refine ⟨fun i i0 hi e => ?_, f.2⟩
  by_cases e2 : (i - 1) / 2 = j
  · rw [e2]; exact hj i i0 hi e2
  · exact f.1 i i0 hi e e2
theorem dnI_fix {h : Nat → α} {n j : Nat} (d : DnI lt h n j) : FixI lt h n j := ⟨fun i i0 hi _ e => d.1 i i0 hi e, d.2⟩
/-- c: the least child. -/
theorem fixI_step (o : Ord lt) (h : Nat → α) {n j c : Nat} (hc0 : 0 < c) (hc : c < n) (hcj : (c - 1) / 2 = j) (d : FixI lt h n j) (hmin : ∀ c', 0 < c' → c' < n → (c' - 1) / 2 = j → lt (h c') (h c) = false) (hl : lt (h c) (h j) = true) : DnI lt (sw h j c) n c := by
  have hlt : j < c := by omega
  refine ⟨fun i i0 hn hi => ?_, fun k k0 hn hk _ => ?_⟩
  · unfold sw
    by_cases e : i = j
    · subst e
      rw [if_pos rfl, if_neg (show (i - 1) / 2 ≠ i by omega), if_neg hi]
      exact d.2 c hc0 hc hcj i0
    · rw [if_neg e]
      by_cases e2 : i = c
      · subst e2
        rw [if_pos rfl, if_pos hcj]
        exact o.asym hl
      · rw [if_neg e2]
        by_cases e3 : (i - 1) / 2 = j
        · rw [if_pos e3]
          exact hmin i i0 hn e3
        · rw [if_neg e3, if_neg hi]
          exact d.1 i i0 hn e e3
  · unfold sw
    rw [if_neg (show k ≠ j by omega), if_neg (show k ≠ c by omega), if_pos hcj]
    have h1 := d.1 k k0 hn (by omega) (by omega)
    rw [hk] at h1
    exact h1
/-- One more at the end. -/
theorem upI_push (h : Nat → α) {n : Nat} (hh : Heap lt h n) (h' : Nat → α) (he : ∀ k, k < n → h' k = h k) : UpI lt h' (n + 1) n := by
  refine ⟨fun i i0 hi e => ?_, fun c c0 hc e h0 => by omega⟩
  rw [he i (by omega), he _ (by omega)]
  exact hh i i0 (by omega)
theorem heap_less {h : Nat → α} {n m : Nat} (hh : Heap lt h n) (hm : m ≤ n) : Heap lt h m := fun i i0 hi => hh i i0 (by omega)
/-- times, then numbers -/
def ltP (a b : Int × Int) : Bool := decide (a.1 < b.1) || (a.1 == b.1 && decide (a.2 < b.2))
theorem ltP_iff (a b : Int × Int) : ltP a b = true ↔ a.1 < b.1 ∨ (a.1 = b.1 ∧ a.2 < b.2) := by
  simp [ltP]
theorem ltP_ord : Ord ltP := by
  refine ⟨fun a => ?_, fun a b c h k => ?_, fun a b c h => ?_⟩
  · cases h : ltP a a with
    | false => rfl
    | true => rw [ltP_iff] at h; omega
  · rw [ltP_iff] at h k ⊢; omega
  · rw [ltP_iff] at h ⊢; rw [ltP_iff]; omega
end Go.Hp
