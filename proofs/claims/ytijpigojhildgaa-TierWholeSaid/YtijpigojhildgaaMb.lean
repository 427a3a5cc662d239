/- Plain laws of lines that are put together: what the document's Merge leaves; no statement of its own. -/
import Derived.Test.YtijpigojhildgaaMa
import Derived.Test.YtijpigojhildgaaPd
namespace Go.Proofs.Ytijpigojhildgaa.Pure
open Go.Vk Go.Am Go.Sort Go.Proofs Go.Proofs.Ytijpigojhildgaa.Y
set_option linter.unusedVariables false
set_option linter.unusedSimpArgs false
instance (a b : L3) : Decidable (ltK a b) := by unfold ltK; infer_instance
section
variable (a b : Ln)
/-- Was there none of its key yet? -/
def isNew (L : Ln) (x : L3) : Bool := decide (∀ y ∈ L, kx y ≠ kx x)
theorem kx_ne (y x : L3) : (y.1 != x.1 || y.2.2 != x.2.2) = decide (kx y ≠ kx x) := by
  have : kx y ≠ kx x ↔ (y.1 ≠ x.1 ∨ y.2.2 ≠ x.2.2) := by
    simp only [kx, ne_eq, Prod.mk.injEq, true_and]
    omega
  rw [Bool.eq_iff_iff, decide_eq_true_iff, this]
  simp
theorem first_loop (o : Ln) (i : Nat) (hi : i < (a ++ b).length) (hn : (a ++ b).length ≤ 1000) :
    loopO (purserref10_Merge.l2 a b (o, (i : Int))) (true, 0) = some (isNew ((a ++ b).take i) (a ++ b)[i]) := by
  rw [Go.Pg.loop_up (f := purserref10_Merge.l2 a b (o, (i : Int))) (s0 := (true, 0)) (fun k => (isNew ((a ++ b).take k) (a ++ b)[i], (k : Int))) i (b := isNew ((a ++ b).take i) (a ++ b)[i]) (by simp [isNew]) ?_ ?_]
  · intro k hk
    have hkl : k < (a ++ b).length := by omega
    have e1 : decide ((k : Int) < (i : Int)) = true := by simp; omega
    have e2 : isNew ((a ++ b).take (k + 1)) (a ++ b)[i] = (isNew ((a ++ b).take k) (a ++ b)[i] && decide (kx (a ++ b)[k] ≠ kx (a ++ b)[i])) := by
      rw [Go.Pg.take_succ (a ++ b) k hkl, isNew, isNew, Bool.eq_iff_iff]
      simp only [List.mem_append, List.mem_singleton, decide_eq_true_eq, Bool.and_eq_true]
      constructor
      · intro h; exact ⟨fun y hy => h y (.inl hy), h _ (.inr rfl)⟩
      · rintro ⟨h1, h2⟩ y (hy | rfl)
        · exact h1 y hy
        · exact h2
    simp only [purserref10_Merge.l2, List.nil_append, e1, cond_true, Go.Pg.ilt hkl, Go.Pg.ilt hi, Go.Pg.nn, Bool.and_self, Go.Pg.at_ (a ++ b) k hkl, Go.Pg.at_ (a ++ b) i hi, Go.Pg.wrS k (by omega)]
    rw [e2, ← kx_ne]
    cases isNew ((a ++ b).take k) (a ++ b)[i] <;> cases h : ((a ++ b)[k].1 != (a ++ b)[i].1) <;> simp
  · have e1 : decide ((i : Int) < (i : Int)) = false := by simp
    simp only [purserref10_Merge.l2, e1, cond_false]
theorem sums_loop (o : Ln) (i : Nat) (hi : i < (a ++ b).length) (hn : (a ++ b).length ≤ 1000) :
    loopO (purserref10_Merge.l5 a b (o, (i : Int))) ([], 0) = some ((grp (a ++ b) (kx (a ++ b)[i])).map (fun x => x.2.1)) := by
  rw [Go.Pg.loop_up (f := purserref10_Merge.l5 a b (o, (i : Int))) (s0 := ([], 0)) (fun k => ((grp ((a ++ b).take k) (kx (a ++ b)[i])).map (fun x => x.2.1), (k : Int))) (a ++ b).length (b := (grp (a ++ b) (kx (a ++ b)[i])).map (fun x => x.2.1)) rfl ?_ ?_]
  · intro k hk
    have hlen : ((grp ((a ++ b).take k) (kx (a ++ b)[i])).map (fun x : L3 => x.2.1)).length + 1 ≤ 1099511627776 := by
      have := grp_len ((a ++ b).take k) (kx (a ++ b)[i])
      simp only [List.length_take] at this
      simp only [List.length_map]
      omega
    simp only [purserref10_Merge.l5, List.nil_append, cond_true, Go.Pg.ilt hk, Go.Pg.ilt hi, Go.Pg.nn, Bool.and_self, Go.Pg.at_ (a ++ b) k hk, Go.Pg.at_ (a ++ b) i hi, Go.Pg.wrS k (by omega), Go.Pg.take_succ (a ++ b) k hk, grp_snoc, List.length_singleton, decide_eq_true hlen]
    have e : (((a ++ b)[k].1 == (a ++ b)[i].1) && ((a ++ b)[k].2.2 == (a ++ b)[i].2.2)) = decide (kx (a ++ b)[k] = kx (a ++ b)[i]) := by
      have : kx (a ++ b)[k] = kx (a ++ b)[i] ↔ ((a ++ b)[k].1 = (a ++ b)[i].1 ∧ (a ++ b)[k].2.2 = (a ++ b)[i].2.2) := by
        simp only [kx, Prod.mk.injEq, true_and]
      rw [Bool.eq_iff_iff, decide_eq_true_iff, this]
      simp
    by_cases hk2 : kx (a ++ b)[k] = kx (a ++ b)[i]
    · rw [decide_eq_true hk2] at e
      simp only [Bool.and_eq_true] at e
      simp [e.1, e.2, hk2]
    · rw [decide_eq_false hk2] at e
      cases h1 : ((a ++ b)[k].1 == (a ++ b)[i].1) with
      | false => simp [hk2]
      | true =>
        rw [h1, Bool.true_and] at e
        simp [e, hk2]
  · simp only [purserref10_Merge.l5, List.nil_append, Go.Pg.ige, cond_false, List.take_length]
/-- A line comes to its place. -/
def insK (x : L3) (o : Ln) : Ln := o.filter (fun y => decide (ltK y x)) ++ x :: o.filter (fun y => decide (ltK x y))
theorem sorted_split : ∀ {o : Ln} {x : L3}, o.Pairwise ltK → (∀ y ∈ o, kx y ≠ kx x) → o = o.filter (fun y => decide (ltK y x)) ++ o.filter (fun y => decide (ltK x y))
  | [], x, _, _ => rfl
  | y :: o, x, h, hk => by
    rw [List.pairwise_cons] at h
    have ih := sorted_split (x := x) h.2 (fun z hz => hk z (by simp [hz]))
    by_cases hy : ltK y x
    · have hn : ¬ ltK x y := fun k => ltK_irrefl _ (ltK_trans hy k)
      simp only [List.filter_cons, hy, hn, decide_true, decide_false, if_true, Bool.false_eq_true, if_false, List.cons_append]
      rw [← ih]
    · have hxy : ltK x y := ltK_tri hy (fun e => hk y (by simp) e.symm)
      have hall : ∀ z ∈ o, ltK x z := fun z hz => ltK_trans hxy (h.1 z hz)
      have e1 : o.filter (fun z => decide (ltK z x)) = [] := List.filter_eq_nil_iff.2 fun z hz => by
        have := hall z hz
        simp only [decide_eq_true_eq]
        exact fun k => ltK_irrefl _ (ltK_trans this k)
      have e2 : o.filter (fun z => decide (ltK x z)) = o := List.filter_eq_self.2 fun z hz => by simpa using hall z hz
      simp [List.filter_cons, hy, hxy, e1, e2]
theorem ins_loop (o : Ln) (i : Nat) (r : Int × Bool) (hi : i < (a ++ b).length) (hn : (a ++ b).length ≤ 1000) (hol : o.length ≤ 1000) (x : L3) (hx : x = ((a ++ b)[i].1, r.1, (a ++ b)[i].2.2)) (h : o.Pairwise ltK) (hk : ∀ y ∈ o, kx y ≠ kx x) (q : Ln) :
    loopO (purserref10_Merge.l10 a b (q, (i : Int)) r) ((o.length : Int), o ++ [x]) = some (insK x o) := by
  generalize hlo : o.filter (fun y => decide (ltK y x)) = lo
  generalize hhi : o.filter (fun y => decide (ltK x y)) = hi'
  have ho : o = lo ++ hi' := by rw [← hlo, ← hhi]; exact sorted_split h hk
  have hloA : ∀ y ∈ lo, ltK y x := fun y hy => by rw [← hlo] at hy; simpa using (List.mem_filter.1 hy).2
  have hhiA : ∀ y ∈ hi', ltK x y := fun y hy => by rw [← hhi] at hy; simpa using (List.mem_filter.1 hy).2
  have hlen : lo.length + hi'.length ≤ 1000 := by rw [ho] at hol; simpa using hol
  have hgt : ∀ y : L3, decide (y.1 > (a ++ b)[i].1) = decide (y.1 > x.1) ∧ (y.1 == (a ++ b)[i].1) = (y.1 == x.1) ∧ decide (y.2.2 > (a ++ b)[i].2.2) = decide (y.2.2 > x.2.2) := fun y => by subst hx; exact ⟨rfl, rfl, rfl⟩
  rw [Go.Pg.loop_up (f := purserref10_Merge.l10 a b (q, (i : Int)) r) (s0 := ((o.length : Int), o ++ [x])) (fun j => (((lo.length + (hi'.length - j) : Nat) : Int), lo ++ hi'.take (hi'.length - j) ++ x :: hi'.drop (hi'.length - j))) hi'.length (b := insK x o) ?_ ?_ ?_]
  · simp only [Nat.sub_zero, List.take_length, List.drop_length]
    rw [ho]
    simp
  · intro j hj
    obtain ⟨m, hm⟩ : ∃ m, hi'.length - j = m + 1 := ⟨hi'.length - j - 1, by omega⟩
    have hm' : hi'.length - (j + 1) = m := by omega
    have hml : m < hi'.length := by omega
    have ht : hi'.take (m + 1) = hi'.take m ++ [hi'[m]] := Go.Pg.take_succ hi' m hml
    have hd : hi'.drop m = hi'[m] :: hi'.drop (m + 1) := List.drop_eq_getElem_cons hml
    have hA : (lo ++ hi'.take m).length = lo.length + m := by simp; omega
    have hS : lo ++ hi'.take (hi'.length - j) ++ x :: hi'.drop (hi'.length - j) = (lo ++ hi'.take m) ++ hi'[m] :: x :: hi'.drop (m + 1) := by rw [hm, ht]; simp only [List.append_assoc, List.singleton_append]
    have hSn : lo ++ hi'.take (hi'.length - (j + 1)) ++ x :: hi'.drop (hi'.length - (j + 1)) = (lo ++ hi'.take m) ++ x :: hi'[m] :: hi'.drop (m + 1) := by rw [hm', hd]
    rw [hS, hSn, hm, hm']
    generalize hAA : lo ++ hi'.take m = A at *
    generalize hBB : hi'.drop (m + 1) = B at *
    have hmx := hhiA hi'[m] (List.getElem_mem _)
    generalize hi'[m] = y at *
    have w1 : IntKind.i64.wrap (((lo.length + (m + 1) : Nat) : Int) - 1) = ((A.length : Nat) : Int) := by rw [hA, wr _ (by omega) (by omega)]; omega
    have hBl : A.length + 2 + B.length ≤ 3000 := by
      have : B.length ≤ hi'.length := by rw [← hBB]; simp
      omega
    have c0 : decide (((lo.length + (m + 1) : Nat) : Int) > 0) = true := by simp; omega
    have c1 : decide ((A.length : Int) < ((A ++ y :: x :: B).length : Int)) = true := by simp; omega
    have c2 : decide (((lo.length + (m + 1) : Nat) : Int) < ((A ++ y :: x :: B).length : Int)) = true := by simp; omega
    have g1 : (A ++ y :: x :: B).getD ((A.length : Int)).toNat (0, (0, 0)) = y := by simp
    have e1 : ((lo.length + (m + 1) : Nat) : Int).toNat = A.length + 1 := by omega
    have s1 : (A ++ y :: x :: B).set (A.length + 1) y = A ++ y :: y :: B := by
      rw [List.set_append_right _ _ (by omega)]
      simp
    have s2 : (A ++ y :: y :: B).set ((A.length : Int)).toNat x = A ++ x :: y :: B := by
      rw [Int.toNat_natCast, List.set_append_right _ _ (by omega)]
      simp
    have c3 : decide ((A.length : Int) < ((A ++ y :: y :: B).length : Int)) = true := by simp; omega
    have ee : ∀ z : L3, (z.1, z.2.1, z.2.2) = z := fun z => rfl
    have hcond : (bif !(decide (y.1 > x.1)) then (bif (y.1 == x.1) then decide (y.2.2 > x.2.2) else false) else true) = true := by
      unfold ltK at hmx
      by_cases h1 : y.1 > x.1
      · simp [h1]
      · have h2 : x.1 = y.1 := by omega
        have h3 : y.2.2 > x.2.2 := by omega
        simp [h2, h3]
    simp only [purserref10_Merge.l10, List.nil_append, w1, c0, c1, c2, cond_true, Go.Pg.nn, Bool.and_self, g1, (hgt y).1, (hgt y).2.1, (hgt y).2.2, e1, ee, s1, c3, Go.Pg.ilt hi, Go.Pg.at_ (a ++ b) i hi, ← hx, s2]
    rw [← hA]
    cases h1 : decide (y.1 > x.1) with
    | true => simp
    | false =>
      rw [h1] at hcond
      cases h2 : (y.1 == x.1) with
      | false => rw [h2] at hcond; simp at hcond
      | true =>
        rw [h2] at hcond
        simp only [Bool.not_false, cond_true] at hcond
        simp only [Bool.not_false, cond_true, hcond, Option.bind_some]
  · have hS : lo ++ hi'.take (hi'.length - hi'.length) ++ x :: hi'.drop (hi'.length - hi'.length) = lo ++ x :: hi' := by simp
    rw [hS]
    have hr : insK x o = lo ++ x :: hi' := by unfold insK; rw [hlo, hhi]
    rw [hr]
    have e0 : lo.length + (hi'.length - hi'.length) = lo.length := by omega
    rw [e0]
    rcases List.eq_nil_or_concat lo with hl0 | ⟨A, y, hl0⟩
    · subst hl0
      simp [purserref10_Merge.l10]
    · have hy := hloA y (by rw [hl0]; simp)
      have hlA : lo.length = A.length + 1 := by rw [hl0]; simp
      have hS2 : lo ++ x :: hi' = A ++ y :: x :: hi' := by rw [hl0]; simp
      rw [hS2, hlA]
      have w1 : IntKind.i64.wrap (((A.length + 1 : Nat) : Int) - 1) = ((A.length : Nat) : Int) := by rw [wr _ (by omega) (by omega)]; omega
      have c0 : decide (((A.length + 1 : Nat) : Int) > 0) = true := by simp
      have c1 : decide ((A.length : Int) < ((A ++ y :: x :: hi').length : Int)) = true := by simp; omega
      have g1 : (A ++ y :: x :: hi').getD ((A.length : Int)).toNat (0, (0, 0)) = y := by simp
      simp only [purserref10_Merge.l10, List.nil_append, w1, c0, c1, cond_true, Go.Pg.nn, Bool.and_self, g1, (hgt y).1, (hgt y).2.1, (hgt y).2.2, Go.Pg.at_ (a ++ b) i hi]
      unfold ltK at hy
      have h1 : decide (y.1 > x.1) = false := by simp; omega
      rw [h1]
      by_cases h2 : y.1 = x.1
      · have h3 : decide (y.2.2 > x.2.2) = false := by simp; omega
        have h2' : (y.1 == x.1) = true := by simpa using h2
        simp [h2', h3]
      · have h2' : (y.1 == x.1) = false := by simpa using h2
        simp [h2']
end
/-- What is there behind the first i lines. -/
def outs (L : Ln) : Nat → Ln
  | 0 => []
  | i + 1 => if h : i < L.length then (if isNew (L.take i) L[i] then insK (L[i].1, gs L (kx L[i]), L[i].2.2) (outs L i) else outs L i) else outs L i
theorem kx_kx (x : L3) (n : Int) : kx (x.1, n, x.2.2) = kx x := rfl
theorem mem_insK {x y : L3} {o : Ln} (h : o.Pairwise ltK) (hk : ∀ z ∈ o, kx z ≠ kx x) : y ∈ insK x o ↔ y = x ∨ y ∈ o := by
  have := sorted_split h hk
  unfold insK
  simp only [List.mem_append, List.mem_cons]
  constructor
  · rintro (h1 | h1 | h1)
    · exact .inr (List.mem_filter.1 h1).1
    · exact .inl h1
    · exact .inr (List.mem_filter.1 h1).1
  · rintro (h1 | h1)
    · exact .inr (.inl h1)
    · rw [this] at h1
      rcases List.mem_append.1 h1 with h2 | h2
      · exact .inl h2
      · exact .inr (.inr h2)
theorem sorted_insK {x : L3} {o : Ln} (h : o.Pairwise ltK) : (insK x o).Pairwise ltK := by
  unfold insK
  rw [List.pairwise_append, List.pairwise_cons]
  refine ⟨h.filter _, ⟨fun y hy => by simpa using (List.mem_filter.1 hy).2, h.filter _⟩, fun y hy z hz => ?_⟩
  have h1 : ltK y x := by simpa using (List.mem_filter.1 hy).2
  rcases List.mem_cons.1 hz with rfl | hz
  · exact h1
  · exact ltK_trans h1 (by simpa using (List.mem_filter.1 hz).2)
theorem outs_inv (L : Ln) : ∀ i, i ≤ L.length → (outs L i).Pairwise ltK ∧ ∀ x, x ∈ outs L i ↔ ∃ y ∈ L.take i, kx y = kx x ∧ x.2.1 = gs L (kx x)
  | 0, _ => by simp [outs]
  | i + 1, hi => by
    obtain ⟨h1, h2⟩ := outs_inv L i (by omega)
    have hlt : i < L.length := by omega
    rw [outs, dif_pos hlt]
    by_cases hn : isNew (L.take i) L[i] = true
    · rw [if_pos hn]
      have hn' : ∀ y ∈ L.take i, kx y ≠ kx L[i] := by simpa [isNew] using hn
      have hk : ∀ z ∈ outs L i, kx z ≠ kx (L[i].1, gs L (kx L[i]), L[i].2.2) := fun z hz e => by
        obtain ⟨y, q1, q2, _⟩ := (h2 z).1 hz
        exact hn' y q1 (q2.trans e)
      refine ⟨sorted_insK h1, fun x => ?_⟩
      rw [mem_insK h1 hk, h2, Go.Pg.take_succ L i hlt]
      constructor
      · rintro (rfl | ⟨y, q1, q2, q3⟩)
        · exact ⟨L[i], List.mem_append.2 (.inr (List.mem_singleton.2 rfl)), rfl, rfl⟩
        · exact ⟨y, List.mem_append.2 (.inl q1), q2, q3⟩
      · rintro ⟨y, q1, q2, q3⟩
        rcases List.mem_append.1 q1 with q1 | q1
        · exact .inr ⟨y, q1, q2, q3⟩
        · simp only [List.mem_singleton] at q1
          subst q1
          left
          rw [← q2] at q3
          obtain ⟨x1, x2, x3⟩ := x
          simp only [kx, Prod.mk.injEq, true_and] at q2
          simp only at q3
          rw [q3, q2.1, q2.2]
    · rw [if_neg hn]
      have hn' : ∃ y ∈ L.take i, kx y = kx L[i] := by
        simp only [isNew, decide_eq_true_eq, Classical.not_forall] at hn
        obtain ⟨y, hy, e⟩ := hn
        exact ⟨y, hy, Classical.not_not.1 e⟩
      refine ⟨h1, fun x => ?_⟩
      rw [h2, Go.Pg.take_succ L i hlt]
      constructor
      · rintro ⟨y, q1, q2⟩; exact ⟨y, List.mem_append.2 (.inl q1), q2⟩
      · rintro ⟨y, q1, q2, q3⟩
        rcases List.mem_append.1 q1 with q1 | q1
        · exact ⟨y, q1, q2, q3⟩
        · simp only [List.mem_singleton] at q1
          subst q1
          obtain ⟨z, hz, e⟩ := hn'
          exact ⟨z, hz, e.trans q2, q3⟩
theorem outs_len (L : Ln) : ∀ i, (outs L i).length ≤ i
  | 0 => by simp [outs]
  | i + 1 => by
    have ih := outs_len L i
    rw [outs]
    split
    · split
      · rename_i h hn
        have : (insK (L[i].1, gs L (kx L[i]), L[i].2.2) (outs L i)).length ≤ (outs L i).length + 1 := by
          unfold insK
          have : ∀ (l : Ln), (l.filter (fun y => decide (ltK y (L[i].1, gs L (kx L[i]), L[i].2.2)))).length + (l.filter (fun y => decide (ltK (L[i].1, gs L (kx L[i]), L[i].2.2) y))).length ≤ l.length := by
            intro l
            induction l with
            | nil => simp
            | cons y l ih =>
              simp only [List.filter_cons, List.length_cons]
              by_cases h1 : ltK y (L[i].1, gs L (kx L[i]), L[i].2.2) <;> by_cases h2 : ltK (L[i].1, gs L (kx L[i]), L[i].2.2) y
              · exact absurd (ltK_trans h1 h2) (ltK_irrefl _)
              · simp [h1, h2]; omega
              · simp [h1, h2]; omega
              · simp [h1, h2]; omega
          have := this (outs L i)
          simp only [List.length_append, List.length_cons]
          omega
        omega
      · omega
    · omega
theorem least_bad (L : Ln) (p : L3 → Prop) [DecidablePred p] (h : ¬ ∀ y ∈ L, p y) : ∃ m, (∃ hm : m < L.length, ¬ p L[m]) ∧ ∀ j, j < m → ∀ hj : j < L.length, p L[j] := by
  induction L with
  | nil => simp at h
  | cons x L ih =>
    by_cases hx : p x
    · have : ¬ ∀ y ∈ L, p y := fun k => h (by simpa [hx] using k)
      obtain ⟨m, ⟨hm, hb⟩, hmin⟩ := ih this
      refine ⟨m + 1, ⟨by simpa using hm, by simpa using hb⟩, fun j hj hl => ?_⟩
      cases j with
      | zero => simpa using hx
      | succ j => simpa using hmin j (by omega) (by simpa using hl)
    · exact ⟨0, ⟨by simp, by simpa using hx⟩, fun j hj => by omega⟩
section
variable (a b : Ln)
theorem ref_step (i : Nat) (hi : i < (a ++ b).length) (hn : (a ++ b).length ≤ 1000) (hx : ∀ x ∈ a ++ b, i64 x.2.1) (o : Ln) (ho : o = outs (a ++ b) i) :
    purserref10_Merge.l1 a b (o, (i : Int)) = if isNew ((a ++ b).take i) (a ++ b)[i] = true ∧ ¬ i64 (gs (a ++ b) (kx (a ++ b)[i])) then some (.inr (.inl ([], false))) else some (.inl (outs (a ++ b) (i + 1), ((i + 1 : Nat) : Int))) := by
  obtain ⟨h1, h2⟩ := outs_inv (a ++ b) i (by omega)
  have hol : o.length ≤ 1000 := by rw [ho]; have := outs_len (a ++ b) i; omega
  have hsum : purserref01_Sum.f ((grp (a ++ b) (kx (a ++ b)[i])).map (fun x => x.2.1)) = some (FI (gs (a ++ b) (kx (a ++ b)[i]))) := by
    rw [ref_sum _ (by have := grp_len (a ++ b) (kx (a ++ b)[i]); simp only [List.length_map]; omega) (i64_of (l := grp (a ++ b) (kx (a ++ b)[i])) fun x hq => hx x (List.mem_filter.1 hq).1)]
    rfl
  have hlen : o.length + 1 ≤ 1099511627776 := by omega
  simp only [purserref10_Merge.l1, List.nil_append, Go.Pg.ilt hi, cond_true, Go.Pg.nn, Bool.and_self, first_loop a b o i hi hn, Option.bind_some, sums_loop a b o i hi hn, hsum, Go.Pg.at_ (a ++ b) i hi, List.length_singleton, decide_eq_true hlen, Go.Pg.wrS i (by omega)]
  rw [outs, dif_pos hi]
  cases hN : isNew ((a ++ b).take i) (a ++ b)[i] with
  | false => simp [ho]
  | true =>
    simp only [Bool.not_true, cond_false, true_and, if_true]
    by_cases hf : i64 (gs (a ++ b) (kx (a ++ b)[i]))
    · have e : FI (gs (a ++ b) (kx (a ++ b)[i])) = (gs (a ++ b) (kx (a ++ b)[i]), true) := if_pos hf
      have hn' : ∀ y ∈ (a ++ b).take i, kx y ≠ kx (a ++ b)[i] := by simpa [isNew] using hN
      have hk : ∀ z ∈ o, kx z ≠ kx ((a ++ b)[i].1, gs (a ++ b) (kx (a ++ b)[i]), (a ++ b)[i].2.2) := fun z hz e => by
        rw [ho] at hz
        obtain ⟨y, q1, q2, _⟩ := (h2 z).1 hz
        exact hn' y q1 (q2.trans e)
      rw [e]
      simp only [Bool.not_true, cond_false]
      rw [ins_loop a b o i (gs (a ++ b) (kx (a ++ b)[i]), true) hi hn hol _ rfl (by rw [ho]; exact h1) hk o]
      simp only [Option.bind_some, hf, not_true_eq_false, if_false, ho]
    · have e : FI (gs (a ++ b) (kx (a ++ b)[i])) = (0, false) := if_neg hf
      rw [e]
      simp [hf]
theorem ref_merge (hl : (a ++ b).length ≤ 1000) (hx : ∀ x ∈ a ++ b, i64 x.2.1) : ∃ o ok, purserref10_Merge.f a b = some (o, ok) ∧ IsM (a ++ b) o ok ∧ o.length ≤ (a ++ b).length := by
  have hll : a.length + b.length ≤ 1000 := by simpa using hl
  have d4 : decide (([] : Ln).length + a.length ≤ 1099511627776) = true := by simp; omega
  have d5 : decide ((([] : Ln) ++ a).length + b.length ≤ 1099511627776) = true := by simp; omega
  by_cases hall : ∀ y ∈ a ++ b, i64 (gs (a ++ b) (kx y))
  · obtain ⟨h1, h2⟩ := outs_inv (a ++ b) (a ++ b).length (Nat.le_refl _)
    refine ⟨outs (a ++ b) (a ++ b).length, true, ?_, ⟨fun _ => ⟨h1, fun x => ?_, hall⟩, fun h => by cases h⟩, outs_len _ _⟩
    · unfold purserref10_Merge.f
      rw [d4, d5]
      simp only [cond_true]
      rw [Go.Pg.loop_up (f := purserref10_Merge.l1 a b) (s0 := ([], 0)) (fun i => (outs (a ++ b) i, (i : Int))) (a ++ b).length (b := .inr (outs (a ++ b) (a ++ b).length)) rfl ?_ ?_]
      · rfl
      · intro i hi
        rw [ref_step a b i hi hl hx _ rfl, if_neg (fun h => h.2 (hall _ (List.getElem_mem _)))]
      · simp only [purserref10_Merge.l1, List.nil_append, Go.Pg.ige, cond_false]
    · rw [h2, List.take_length]
  · obtain ⟨m, hm, hmin⟩ := least_bad (a ++ b) (fun y => i64 (gs (a ++ b) (kx y))) hall
    obtain ⟨hlt, hbad⟩ := hm
    refine ⟨[], false, ?_, ⟨fun h => (by cases h), fun _ => ⟨rfl, (a ++ b)[m], List.getElem_mem _, hbad⟩⟩, Nat.zero_le _⟩
    unfold purserref10_Merge.f
    rw [d4, d5]
    simp only [cond_true]
    have hnew : isNew ((a ++ b).take m) (a ++ b)[m] = true := by
      simp only [isNew, decide_eq_true_eq]
      intro y hy e
      obtain ⟨j, hj, rfl⟩ := List.getElem_of_mem hy
      have hjm : j < m := by simp at hj; omega
      rw [List.getElem_take] at e
      have := hmin j hjm (by omega)
      rw [e] at this
      exact hbad this
    rw [Go.Pg.loop_up (f := purserref10_Merge.l1 a b) (s0 := ([], 0)) (fun i => (outs (a ++ b) i, (i : Int))) m (b := .inl ([], false)) rfl ?_ ?_]
    · rfl
    · intro i hi
      rw [ref_step a b i (by omega) hl hx _ rfl, if_neg (fun h => h.2 (hmin i hi (by omega)))]
    · rw [ref_step a b m hlt hl hx _ rfl, if_pos ⟨hnew, hbad⟩]
end
end Go.Proofs.Ytijpigojhildgaa.Pure
