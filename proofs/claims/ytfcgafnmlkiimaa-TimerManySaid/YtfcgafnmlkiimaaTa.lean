/- Plain laws of the timers: what container/heap's up and down do. No statement of its own. -/
import Derived.Test.YtfcgafnmlkiimaaA5d
import Derived.Test.YtfcgafnmlkiimaaPg
import Derived.Test.YtfcgafnmlkiimaaHp
namespace Go.Proofs.Ytfcgafnmlkiimaa.Pure
open Go.Vk Go.Am Go.Pg Go.Hp Go.Proofs.Ytfcgafnmlkiimaa.Y
set_option linter.unusedVariables false
set_option linter.unusedSimpArgs false

abbrev It := Int × Int × Int
abbrev KI : Ty := .int .i64
abbrev Tm := List It × (List Nat × Gp KI Nat)
/-- an item -/
def it (A : List It) (k : Nat) : It := A.getD k (0, (0, 0))
/-- what an item is ordered by -/
def od (A : List It) (k : Nat) : Int × Int := ((it A k).2.1, (it A k).1)
/-- what stands in the places -/
def hv (A : List It) (ks : List Nat) (i : Nat) : Int × Int := od A (ks.getD i 0)
def swK (ks : List Nat) (i j : Nat) : List Nat := (ks.set i (ks.getD j 0)).set j (ks.getD i 0)
def plc (A : List It) (k : Nat) (p : Int) : List It := A.set k ((it A k).1, ((it A k).2.1, p))
def swA (A : List It) (ks : List Nat) (i j : Nat) : List It := plc (plc A ((swK ks i j).getD i 0) i) ((swK ks i j).getD j 0) j
/-- Each item stands where it says. -/
structure Ok (A : List It) (ks : List Nat) : Prop where
  nd : ks.Nodup
  lt : ∀ k ∈ ks, k < A.length
  pl : ∀ i, i < ks.length → (it A (ks.getD i 0)).2.2 = (i : Int)
  len : ks.length ≤ 1099511627776
/-- The items are the same, but for their places. -/
def Sm (A A' : List It) : Prop := A'.length = A.length ∧ ∀ k, od A' k = od A k
theorem Sm.refl (A : List It) : Sm A A := ⟨rfl, fun _ => rfl⟩
theorem Sm.trans {A B C : List It} (h : Sm A B) (k : Sm B C) : Sm A C := ⟨k.1.trans h.1, fun q => (k.2 q).trans (h.2 q)⟩
theorem getD_mem {ks : List Nat} {i : Nat} (h : i < ks.length) : ks.getD i 0 ∈ ks := by
  rw [List.getD_eq_getElem?_getD, List.getElem?_eq_getElem h]; exact List.getElem_mem h
theorem nd_inj {ks : List Nat} (h : ks.Nodup) {i j : Nat} (hi : i < ks.length) (hj : j < ks.length) (e : ks.getD i 0 = ks.getD j 0) : i = j := by
  rw [List.getD_eq_getElem?_getD, List.getD_eq_getElem?_getD, List.getElem?_eq_getElem hi, List.getElem?_eq_getElem hj] at e
  exact (List.getElem_inj h).1 e
theorem it_plc (A : List It) (k : Nat) (p : Int) (q : Nat) (hk : k < A.length) : it (plc A k p) q = if q = k then ((it A k).1, ((it A k).2.1, p)) else it A q := by
  unfold plc it
  rw [List.getD_eq_getElem?_getD, List.getElem?_set]
  by_cases h : k = q
  · subst h; simp [hk]
  · rw [if_neg h, if_neg (fun e => h e.symm), ← List.getD_eq_getElem?_getD]
theorem sm_plc (A : List It) (k : Nat) (p : Int) (hk : k < A.length) : Sm A (plc A k p) := by
  refine ⟨by simp [plc], fun q => ?_⟩
  unfold od
  rw [it_plc A k p q hk]
  by_cases h : q = k
  · subst h; rw [if_pos rfl]
  · rw [if_neg h]
theorem swK_len (ks : List Nat) (i j : Nat) : (swK ks i j).length = ks.length := by simp [swK]
theorem swK_get {ks : List Nat} {i j : Nat} (hi : i < ks.length) (hj : j < ks.length) (q : Nat) : (swK ks i j).getD q 0 = if q = i then ks.getD j 0 else if q = j then ks.getD i 0 else ks.getD q 0 := by
  unfold swK
  rw [List.getD_eq_getElem?_getD, List.getElem?_set]
  by_cases h1 : j = q
  · subst h1
    simp only [List.length_set, hj, if_true, Option.getD_some]
    by_cases h2 : j = i
    · subst h2; simp
    · rw [if_neg h2]
  · rw [if_neg h1, List.getElem?_set, if_neg (fun e => h1 e.symm : ¬ q = j)]
    by_cases h2 : i = q
    · subst h2; simp [hi]
    · rw [if_neg h2, if_neg (fun e => h2 e.symm), ← List.getD_eq_getElem?_getD]
theorem swK_perm {ks : List Nat} {i j : Nat} (hi : i < ks.length) (hj : j < ks.length) : (swK ks i j).Perm ks := by
  have := List.set_set_perm (as := ks) hi hj
  unfold swK
  rw [List.getD_eq_getElem?_getD, List.getD_eq_getElem?_getD, List.getElem?_eq_getElem hi, List.getElem?_eq_getElem hj]
  exact this
theorem sw_sm {A : List It} {ks : List Nat} {i j : Nat} (h : Ok A ks) (hi : i < ks.length) (hj : j < ks.length) : Sm A (swA A ks i j) := by
  have hn := swK_len ks i j
  have hp := swK_perm hi hj
  have h1 : (swK ks i j).getD i 0 < A.length := h.lt _ (hp.mem_iff.1 (getD_mem (by omega)))
  have h2 : (swK ks i j).getD j 0 < A.length := h.lt _ (hp.mem_iff.1 (getD_mem (by omega)))
  exact (sm_plc A _ _ h1).trans (sm_plc _ _ _ (by simpa [plc] using h2))
theorem sw_ok {A : List It} {ks : List Nat} {i j : Nat} (h : Ok A ks) (hi : i < ks.length) (hj : j < ks.length) : Ok (swA A ks i j) (swK ks i j) := by
  have hn := swK_len ks i j
  have hp := swK_perm hi hj
  have h1 : (swK ks i j).getD i 0 < A.length := h.lt _ (hp.mem_iff.1 (getD_mem (by omega)))
  have h2 : (swK ks i j).getD j 0 < A.length := h.lt _ (hp.mem_iff.1 (getD_mem (by omega)))
  have hnd : (swK ks i j).Nodup := hp.nodup_iff.2 h.nd
  refine ⟨hnd, fun k hk => ?_, fun q hq => ?_, by rw [hn]; exact h.len⟩
  · rw [(sw_sm h hi hj).1]; exact h.lt k (hp.mem_iff.1 hk)
  · unfold swA
    rw [it_plc _ _ _ _ (by simpa [plc] using h2)]
    by_cases e : (swK ks i j).getD q 0 = (swK ks i j).getD j 0
    · rw [if_pos e]
      have := nd_inj hnd hq (by omega) e
      rw [this]
    · rw [if_neg e, it_plc _ _ _ _ h1]
      by_cases e2 : (swK ks i j).getD q 0 = (swK ks i j).getD i 0
      · rw [if_pos e2]
        have := nd_inj hnd hq (by omega) e2
        rw [this]
      · rw [if_neg e2]
        have hqi : q ≠ i := fun h => e2 (by rw [h])
        have hqj : q ≠ j := fun h => e (by rw [h])
        rw [swK_get hi hj, if_neg hqi, if_neg hqj]
        exact h.pl q (by omega)
theorem sw_hv {A : List It} {ks : List Nat} {i j : Nat} (h : Ok A ks) (hi : i < ks.length) (hj : j < ks.length) : hv (swA A ks i j) (swK ks i j) = sw (hv A ks) i j := by
  funext q
  unfold hv
  rw [(sw_sm h hi hj).2, swK_get hi hj]
  unfold sw
  by_cases h1 : q = i
  · rw [if_pos h1, if_pos h1]
  · rw [if_neg h1, if_neg h1]
    by_cases h2 : q = j
    · rw [if_pos h2, if_pos h2]
    · rw [if_neg h2, if_neg h2]
/-! ### the comparison -/
def cmpI (a b : Int) : Int := if a < b then -1 else if a > b then 1 else 0
theorem cmp_eq (a b : Int) : cmp_Compare_int.f a b = some (cmpI a b) := by
  unfold cmp_Compare_int.f cmp_isNaN_int.f cmpI
  simp only [bne_self_eq_false, Option.bind_some, cond_false]
  by_cases h : a < b
  · simp [h]
  · by_cases h2 : a > b
    · simp [h, h2]
    · simp [h, h2]
theorem or_eq (a b : Int) : cmp_Or_int.f [a, b] = some (if a ≠ 0 then a else b) := by
  unfold cmp_Or_int.f
  rw [loopO_eq]
  have w1 : IntKind.i64.wrap 1 = 1 := by decide
  have w2 : IntKind.i64.wrap 2 = 2 := by decide
  have e0 : cmp_Or_int.l1 [a, b] 0 = some (if a ≠ 0 then .inr (.inl a) else .inl 1) := by
    unfold cmp_Or_int.l1
    by_cases h : a = 0
    · subst h; simp [w1]
    · have : (a != 0) = true := by simpa using h
      simp [h, this]
  have e1 : cmp_Or_int.l1 [a, b] 1 = some (if b ≠ 0 then .inr (.inl b) else .inl 2) := by
    unfold cmp_Or_int.l1
    by_cases h : b = 0
    · subst h; simp [w2]
    · have : (b != 0) = true := by simpa using h
      simp [h, this]
  have e2 : cmp_Or_int.l1 [a, b] 2 = some (.inr (.inr ())) := by
    unfold cmp_Or_int.l1
    simp
  rw [e0]
  by_cases h : a = 0
  · subst h
    simp only [ne_eq, not_true_eq_false, if_false, Option.bind_some]
    rw [loopO_eq, e1]
    by_cases h : b = 0
    · subst h
      simp only [ne_eq, not_true_eq_false, if_false, Option.bind_some]
      rw [loopO_eq, e2]
      rfl
    · simp [h]
  · simp [h]
theorem or_lt (a b c d : Int) : decide ((if cmpI a b ≠ 0 then cmpI a b else cmpI c d) < 0) = ltP (a, c) (b, d) := by
  unfold ltP cmpI
  by_cases h1 : a < b
  · simp [h1]
  · by_cases h2 : a > b
    · have h3 : (a == b) = false := by simp; omega
      simp [h1, h2, h3]
    · have h3 : (a == b) = true := by simp; omega
      by_cases h4 : c < d
      · simp [h1, h2, h3, h4]
      · by_cases h5 : c > d
        · simp [h1, h2, h3, h4, h5]
        · simp [h1, h2, h3, h4, h5]
/-! ### up -/
theorem par_eq (j : Nat) (hj : j ≤ 1099511627776) : IntKind.i64.wrap (Int.tdiv (IntKind.i64.wrap ((j : Int) - 1)) 2) = (((j - 1) / 2 : Nat) : Int) := by
  rw [wr ((j : Int) - 1) (by omega) (by omega)]
  rcases j with _ | j
  · decide
  · rw [show (((j + 1 : Nat) : Int) - 1) = ((j : Nat) : Int) by omega, show Int.tdiv (j : Int) 2 = ((j / 2 : Nat) : Int) from by rw [Int.tdiv_eq_ediv_of_nonneg (by omega)]; rfl]
    rw [wr _ (by omega) (by omega)]
    simp
theorem inb {ks : List Nat} {i : Nat} (h : i < ks.length) : (decide (0 ≤ (i : Int)) && decide ((i : Int) < (ks.length : Int))) = true := by simp; omega
theorem up_step {A : List It} {ks : List Nat} (M : Gp KI Nat) {j : Nat} (hj : j < ks.length) (hl : ks.length ≤ 1099511627776) : timer_Timers_Set.l17 ((j : Int), (A, (ks, M))) = some (if j = 0 ∨ ltP (hv A ks j) (hv A ks ((j - 1) / 2)) = false then .inr (A, (ks, M)) else .inl ((((j - 1) / 2 : Nat) : Int), (swA A ks ((j - 1) / 2) j, (swK ks ((j - 1) / 2) j, M)))) := by
  have hp : (j - 1) / 2 < ks.length := by omega
  unfold timer_Timers_Set.l17
  have hb1 := inb hj
  have hb2 := inb hp
  have hl1 : ∀ x y : Nat, (ks.set x y).length = ks.length := fun x y => by simp
  simp only [par_eq j (by omega), List.length_set, hb1, hb2, cond_true, Int.toNat_natCast, cmp_eq, Option.bind_some, or_eq, or_lt]
  by_cases h0 : j = 0
  · subst h0; simp
  · have e : ((((j - 1) / 2 : Nat) : Int) == (j : Int)) = false := by simp; omega
    rw [e]
    simp only [Bool.not_false, cond_true, Option.bind_some]
    have hh : ltP ((A.getD (ks.getD j 0) (0, 0, 0)).2.1, (A.getD (ks.getD j 0) (0, 0, 0)).1) ((A.getD (ks.getD ((j - 1) / 2) 0) (0, 0, 0)).2.1, (A.getD (ks.getD ((j - 1) / 2) 0) (0, 0, 0)).1) = ltP (hv A ks j) (hv A ks ((j - 1) / 2)) := rfl
    rw [hh]
    cases ltP (hv A ks j) (hv A ks ((j - 1) / 2)) with
    | false => rw [if_pos (.inr rfl)]; rfl
    | true => rw [if_neg (by simp [h0])]; rfl
/-- What up leaves: a heap of n, the places behind j as they were. -/
theorem up_loop {n : Nat} (M : Gp KI Nat) : ∀ (j : Nat) (A : List It) (ks : List Nat), Ok A ks → j < n → n ≤ ks.length → UpI ltP (hv A ks) n j →
    ∃ A' ks', loopO timer_Timers_Set.l17 ((j : Int), (A, (ks, M))) = some (A', (ks', M)) ∧ Ok A' ks' ∧ Sm A A' ∧ ks'.Perm ks ∧ Heap ltP (hv A' ks') n ∧ ∀ q, j < q → ks'.getD q 0 = ks.getD q 0 := by
  intro j
  induction j using Nat.strongRecOn with
  | _ j ih =>
    intro A ks h hj hn u
    rw [loopO_eq, up_step M (by omega) h.len]
    by_cases hc : j = 0 ∨ ltP (hv A ks j) (hv A ks ((j - 1) / 2)) = false
    · rw [if_pos hc]
      exact ⟨A, ks, rfl, h, .refl A, .refl _, upI_done _ u hc, fun _ _ => rfl⟩
    · rw [if_neg hc]
      simp only [not_or] at hc
      have hp : (j - 1) / 2 < j := by omega
      have hu := upI_step ltP_ord (hv A ks) hj (by omega) u (by simpa using hc.2)
      rw [← sw_hv h (by omega) (by omega)] at hu
      obtain ⟨A', ks', e1, e2, e3, e4, e5, e6⟩ := ih _ hp _ _ (sw_ok h (by omega : (j - 1) / 2 < ks.length) (by omega : j < ks.length)) (by omega) (by rw [swK_len]; exact hn) hu
      refine ⟨A', ks', by simpa using e1, e2, (sw_sm h (by omega) (by omega)).trans e3, e4.trans (swK_perm (by omega) (by omega)), e5, fun q hq => ?_⟩
      rw [e6 q (by omega), swK_get (by omega) (by omega), if_neg (by omega), if_neg (by omega)]
/-! ### down -/
/-- the child that is held against its parent -/
def chd (A : List It) (ks : List Nat) (n i : Nat) : Nat := if 2 * i + 2 < n ∧ ltP (hv A ks (2 * i + 2)) (hv A ks (2 * i + 1)) = true then 2 * i + 2 else 2 * i + 1
theorem dn_step {A : List It} {ks : List Nat} (M : Gp KI Nat) (a0 : Tm) {i : Nat} (hi : i < ks.length) (hn : a0.2.1.length ≤ ks.length) (hl : ks.length ≤ 1099511627776) : timer_Timers_Set.l3 a0 ((i : Int), (A, (ks, M))) =
    some (if 2 * i + 1 < a0.2.1.length ∧ ltP (hv A ks (chd A ks a0.2.1.length i)) (hv A ks i) = true then .inl ((chd A ks a0.2.1.length i : Int), (swA A ks i (chd A ks a0.2.1.length i), (swK ks i (chd A ks a0.2.1.length i), M))) else .inr ((i : Int), (A, (ks, M)))) := by
  have e1 : IntKind.i64.wrap (IntKind.i64.wrap (2 * (i : Int)) + 1) = ((2 * i + 1 : Nat) : Int) := by
    rw [wr (2 * (i : Int)) (by omega) (by omega), wr _ (by omega) (by omega)]; omega
  have e2 : IntKind.i64.wrap (((2 * i + 1 : Nat) : Int) + 1) = ((2 * i + 2 : Nat) : Int) := by rw [wr _ (by omega) (by omega)]; omega
  unfold timer_Timers_Set.l3
  simp only [e1, e2]
  generalize hN : a0.2.1.length = n at hn ⊢
  have en : decide (((2 * i + 1 : Nat) : Int) < 0) = false := by simp; omega
  rw [en]
  by_cases h1 : 2 * i + 1 < n
  case neg =>
    have : decide (((2 * i + 1 : Nat) : Int) ≥ (n : Int)) = true := by simp; omega
    rw [this, if_neg (by omega)]
    rfl
  have hd : decide (((2 * i + 1 : Nat) : Int) ≥ (n : Int)) = false := by simp; omega
  rw [hd]
  simp only [Bool.not_false, cond_true, Option.bind_some, cond_false]
  have hb1 := inb (show 2 * i + 1 < ks.length by omega)
  have hbi := inb hi
  have hb2 : 2 * i + 2 < n → (decide (0 ≤ ((2 * i + 2 : Nat) : Int)) && decide (((2 * i + 2 : Nat) : Int) < (ks.length : Int))) = true := fun h => inb (by omega)
  have fin : ∀ c : Nat, c < ks.length → ∀ r, ((some (c : Int)).bind r : Option ((Int × Tm) ⊕ (Int × Tm))) = r (c : Int) := fun _ _ _ => rfl
  have hs : ∀ c : Nat, ltP ((A.getD (ks.getD c 0) (0, 0, 0)).2.1, (A.getD (ks.getD c 0) (0, 0, 0)).1) ((A.getD (ks.getD i 0) (0, 0, 0)).2.1, (A.getD (ks.getD i 0) (0, 0, 0)).1) = ltP (hv A ks c) (hv A ks i) := fun _ => rfl
  by_cases h2 : 2 * i + 2 < n
  · have e : decide (((2 * i + 2 : Nat) : Int) < (n : Int)) = true := by simp; omega
    rw [e]
    simp only [List.length_set, hb1, hb2 h2, hbi, cond_true, Int.toNat_natCast, cmp_eq, Option.bind_some, or_eq, or_lt]
    have hh : ltP ((A.getD (ks.getD (2 * i + 2) 0) (0, 0, 0)).2.1, (A.getD (ks.getD (2 * i + 2) 0) (0, 0, 0)).1) ((A.getD (ks.getD (2 * i + 1) 0) (0, 0, 0)).2.1, (A.getD (ks.getD (2 * i + 1) 0) (0, 0, 0)).1) = ltP (hv A ks (2 * i + 2)) (hv A ks (2 * i + 1)) := rfl
    rw [hh]
    cases hq : ltP (hv A ks (2 * i + 2)) (hv A ks (2 * i + 1)) with
    | false =>
      have hc : chd A ks n i = 2 * i + 1 := by unfold chd; rw [if_neg (by simp [hq])]
      rw [hc]
      simp only [cond_false, Option.bind_some, hb1, Int.toNat_natCast, cond_true, hs]
      cases ltP (hv A ks (2 * i + 1)) (hv A ks i) with
      | false => simp
      | true => rw [if_pos ⟨h1, rfl⟩]; rfl
    | true =>
      have hc : chd A ks n i = 2 * i + 2 := by unfold chd; rw [if_pos ⟨h2, hq⟩]
      rw [hc]
      simp only [cond_true, Option.bind_some, hb2 h2, Int.toNat_natCast, hs]
      cases ltP (hv A ks (2 * i + 2)) (hv A ks i) with
      | false => simp
      | true => rw [if_pos ⟨h1, rfl⟩]; rfl
  · have e : decide (((2 * i + 2 : Nat) : Int) < (n : Int)) = false := by simp; omega
    have hc : chd A ks n i = 2 * i + 1 := by unfold chd; rw [if_neg (fun h => h2 h.1)]
    rw [e, hc]
    simp only [List.length_set, hb1, hbi, cond_true, cond_false, Int.toNat_natCast, cmp_eq, Option.bind_some, or_eq, or_lt, hs]
    cases ltP (hv A ks (2 * i + 1)) (hv A ks i) with
    | false => simp
    | true => rw [if_pos ⟨h1, rfl⟩]; rfl
theorem chd_is {A : List It} {ks : List Nat} {n i : Nat} (h : 2 * i + 1 < n) : 0 < chd A ks n i ∧ chd A ks n i < n ∧ (chd A ks n i - 1) / 2 = i ∧ ∀ c', 0 < c' → c' < n → (c' - 1) / 2 = i → ltP (hv A ks c') (hv A ks (chd A ks n i)) = false := by
  unfold chd
  by_cases h2 : 2 * i + 2 < n ∧ ltP (hv A ks (2 * i + 2)) (hv A ks (2 * i + 1)) = true
  · rw [if_pos h2]
    refine ⟨by omega, h2.1, by omega, fun c' h0 hc e => ?_⟩
    have : c' = 2 * i + 1 ∨ c' = 2 * i + 2 := by omega
    rcases this with rfl | rfl
    · exact ltP_ord.asym h2.2
    · exact ltP_ord.irr _
  · rw [if_neg h2]
    refine ⟨by omega, h, by omega, fun c' h0 hc e => ?_⟩
    have : c' = 2 * i + 1 ∨ c' = 2 * i + 2 := by omega
    rcases this with rfl | rfl
    · exact ltP_ord.irr _
    · cases hq : ltP (hv A ks (2 * i + 2)) (hv A ks (2 * i + 1)) with
      | false => rfl
      | true => exact absurd ⟨hc, hq⟩ h2
theorem no_chd {n i c : Nat} (h : ¬ 2 * i + 1 < n) (h0 : 0 < c) (hc : c < n) (e : (c - 1) / 2 = i) : False := by omega
/-- What down leaves, from a place that may be too great alone. -/
theorem dn_loop1 (M : Gp KI Nat) (a0 : Tm) {n : Nat} (hn0 : a0.2.1.length = n) : ∀ (m i : Nat) (A : List It) (ks : List Nat), n - i ≤ m → Ok A ks → i < n → n ≤ ks.length → DnI ltP (hv A ks) n i →
    ∃ (i' : Nat) (A' : List It) (ks' : List Nat), i ≤ i' ∧ loopO (timer_Timers_Set.l3 a0) ((i : Int), (A, (ks, M))) = some ((i' : Int), (A', (ks', M))) ∧ Ok A' ks' ∧ Sm A A' ∧ ks'.Perm ks ∧ Heap ltP (hv A' ks') n ∧ ∀ q, n ≤ q → ks'.getD q 0 = ks.getD q 0 := by
  intro m
  induction m with
  | zero => intro i A ks hm h hi hn d; omega
  | succ m ih =>
    intro i A ks hm h hi hn d
    rw [loopO_eq, dn_step M a0 (by omega) (by omega) h.len, hn0]
    by_cases hc : 2 * i + 1 < n ∧ ltP (hv A ks (chd A ks n i)) (hv A ks i) = true
    · rw [if_pos hc]
      obtain ⟨c1, c2, c3, c4⟩ := chd_is (A := A) (ks := ks) hc.1
      have hd := fixI_step ltP_ord (hv A ks) c1 c2 c3 (dnI_fix d) c4 hc.2
      generalize chd A ks n i = c at *
      have hcl : c < ks.length := by omega
      have hil : i < ks.length := by omega
      rw [← sw_hv h hil hcl] at hd
      obtain ⟨i', A', ks', e0, e1, e2, e3, e4, e5, e6⟩ := ih c _ _ (by omega) (sw_ok h hil hcl) c2 (by rw [swK_len]; exact hn) hd
      refine ⟨i', A', ks', by omega, by simpa using e1, e2, (sw_sm h hil hcl).trans e3, e4.trans (swK_perm hil hcl), e5, fun q hq => ?_⟩
      rw [e6 q hq, swK_get hil hcl, if_neg (by omega), if_neg (by omega)]
    · rw [if_neg hc]
      refine ⟨i, A, ks, Nat.le_refl _, rfl, h, .refl A, .refl _, dnI_done _ d fun c c0 hcn e => ?_, fun _ _ => rfl⟩
      by_cases h1 : 2 * i + 1 < n
      · have h2 : ltP (hv A ks (chd A ks n i)) (hv A ks i) = false := by
          cases hq : ltP (hv A ks (chd A ks n i)) (hv A ks i) with
          | false => rfl
          | true => exact absurd ⟨h1, hq⟩ hc
        exact ltP_ord.nlt ((chd_is h1).2.2.2 c c0 hcn e) h2
      · exact (no_chd h1 c0 hcn e).elim
/-- What down leaves, from a place of which nothing is known. -/
theorem dn_loop (M : Gp KI Nat) (a0 : Tm) {n i : Nat} {A : List It} {ks : List Nat} (hn0 : a0.2.1.length = n) (h : Ok A ks) (hi : i < n) (hn : n ≤ ks.length) (d : FixI ltP (hv A ks) n i) :
    ∃ (i' : Nat) (A' : List It) (ks' : List Nat), loopO (timer_Timers_Set.l3 a0) ((i : Int), (A, (ks, M))) = some ((i' : Int), (A', (ks', M))) ∧ Ok A' ks' ∧ Sm A A' ∧ ks'.Perm ks ∧ (∀ q, n ≤ q → ks'.getD q 0 = ks.getD q 0) ∧
      ((i' = i ∧ A' = A ∧ ks' = ks ∧ UpI ltP (hv A ks) n i) ∨ (i < i' ∧ Heap ltP (hv A' ks') n)) := by
  rw [loopO_eq, dn_step M a0 (by omega) (by omega) h.len, hn0]
  by_cases hc : 2 * i + 1 < n ∧ ltP (hv A ks (chd A ks n i)) (hv A ks i) = true
  · rw [if_pos hc]
    obtain ⟨c1, c2, c3, c4⟩ := chd_is (A := A) (ks := ks) hc.1
    have hd := fixI_step ltP_ord (hv A ks) c1 c2 c3 d c4 hc.2
    generalize chd A ks n i = c at *
    have hcl : c < ks.length := by omega
    have hil : i < ks.length := by omega
    rw [← sw_hv h hil hcl] at hd
    obtain ⟨i', A', ks', e0, e1, e2, e3, e4, e5, e6⟩ := dn_loop1 M a0 hn0 (n - c) c _ _ (by omega) (sw_ok h hil hcl) c2 (by rw [swK_len]; exact hn) hd
    refine ⟨i', A', ks', by simpa using e1, e2, (sw_sm h hil hcl).trans e3, e4.trans (swK_perm hil hcl), fun q hq => ?_, .inr ⟨by omega, e5⟩⟩
    rw [e6 q hq, swK_get hil hcl, if_neg (by omega), if_neg (by omega)]
  · rw [if_neg hc]
    refine ⟨i, A, ks, rfl, h, .refl A, .refl _, fun _ _ => rfl, .inl ⟨rfl, rfl, rfl, fixI_done d fun c c0 hcn e => ?_⟩⟩
    by_cases h1 : 2 * i + 1 < n
    · have h2 : ltP (hv A ks (chd A ks n i)) (hv A ks i) = false := by
        cases hq : ltP (hv A ks (chd A ks n i)) (hv A ks i) with
        | false => rfl
        | true => exact absurd ⟨h1, hq⟩ hc
      exact ltP_ord.nlt ((chd_is h1).2.2.2 c c0 hcn e) h2
    · exact (no_chd h1 c0 hcn e).elim
end Go.Proofs.Ytfcgafnmlkiimaa.Pure
