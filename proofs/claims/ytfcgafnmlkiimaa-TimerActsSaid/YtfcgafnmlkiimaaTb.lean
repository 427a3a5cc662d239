/- Plain laws of the timers: what Set, Drop and the others do, as a sorted list. No statement of its own. -/
import Derived.Test.YtfcgafnmlkiimaaTa
namespace Go.Proofs.Ytfcgafnmlkiimaa.Pure
open Go.Vk Go.Am Go.Pg Go.Hp Go.Proofs.Ytfcgafnmlkiimaa.Y
set_option linter.unusedVariables false
set_option linter.unusedSimpArgs false

/-! ### maps of whole numbers -/
section
variable {B : Type}
theorem eqI (a b : Int) : eqT KI a b = decide (a = b) := by
  by_cases h : a = b
  · have := (eqT_iff (T := KI) (x := a) (y := b) rfl).2 h
    rw [this]; simp [h]
  · cases he : eqT KI a b with
    | false => simp [h]
    | true => exact absurd ((eqT_iff (T := KI) rfl).1 he) h
def keysG (xs : Gp KI B) : List Int := (xs.filterMap id).map (·.1)
theorem gget_gset : ∀ (xs : Gp KI B) (k : Int) (v : B) (q : Int), gget KI (gset KI xs k v) q = if q = k then some v else gget KI xs q
  | [], k, v, q => by simp only [gset, gget, eqI]; by_cases h : q = k <;> simp [h]
  | none :: l, k, v, q => by simp only [gset, gget, gget_gset l k v q]
  | some (k', v') :: l, k, v, q => by
    simp only [gset, eqI]
    by_cases h : k = k'
    · subst h
      simp only [decide_true, cond_true, gget, eqI]
      by_cases hq : q = k <;> simp [hq]
    · simp only [h, decide_false, cond_false, gget, eqI, gget_gset l k v q]
      by_cases hq : q = k'
      · subst hq
        simp only [decide_true, cond_true]
        rw [if_neg (fun e => h e.symm)]
      · simp only [hq, decide_false, cond_false]
theorem gget_none : ∀ {xs : Gp KI B} {k : Int}, gget KI xs k = none ↔ k ∉ keysG xs
  | [], k => by simp [gget, keysG]
  | none :: l, k => by
    have := gget_none (xs := l) (k := k)
    simpa [gget, keysG] using this
  | some (k', v') :: l, k => by
    have := gget_none (xs := l) (k := k)
    simp only [gget, eqI]
    by_cases h : k = k'
    · subst h; simp [keysG]
    · simp only [h, decide_false, cond_false, this]
      simp [keysG, h]
theorem gdel_none : ∀ {xs : Gp KI B} {k : Int}, k ∉ keysG xs → gdel KI xs k = xs
  | [], k, _ => rfl
  | none :: l, k, h => by simp only [gdel]; rw [gdel_none (by simpa [keysG] using h)]
  | some (k', v') :: l, k, h => by
    simp only [keysG, List.filterMap_cons, id, List.map_cons, List.mem_cons, not_or] at h
    simp only [gdel, eqI, h.1, decide_false, cond_false]
    rw [gdel_none (by simpa [keysG] using h.2)]
theorem gget_gdel : ∀ {xs : Gp KI B} {k q : Int}, (keysG xs).Nodup → gget KI (gdel KI xs k) q = if q = k then none else gget KI xs q
  | [], k, q, _ => by simp [gdel, gget]
  | none :: l, k, q, h => by simp only [gdel, gget]; exact gget_gdel (by simpa [keysG] using h)
  | some (k', v') :: l, k, q, h => by
    simp only [keysG, List.filterMap_cons, id, List.map_cons, List.nodup_cons] at h
    simp only [gdel, eqI]
    by_cases hk : k = k'
    · subst hk
      simp only [decide_true, cond_true, gget, eqI]
      by_cases hq : q = k
      · subst hq
        rw [if_pos rfl]
        exact gget_none.2 h.1
      · simp [hq]
    · simp only [hk, decide_false, cond_false, gget, eqI, gget_gdel (xs := l) (k := k) (q := q) h.2]
      by_cases hq : q = k'
      · subst hq
        simp only [decide_true, cond_true]
        rw [if_neg (fun e => hk e.symm)]
      · simp only [hq, decide_false, cond_false]
theorem keys_gset : ∀ (xs : Gp KI B) (k : Int) (v : B), keysG (gset KI xs k v) = if k ∈ keysG xs then keysG xs else keysG xs ++ [k]
  | [], k, v => by simp [gset, keysG]
  | none :: l, k, v => by
    have := keys_gset l k v
    simp only [keysG] at this ⊢
    simp only [gset, List.filterMap_cons, id]
    exact this
  | some (k', v') :: l, k, v => by
    have := keys_gset l k v
    simp only [keysG] at this ⊢
    simp only [gset, eqI]
    by_cases h : k = k'
    · subst h; simp
    · simp only [h, decide_false, cond_false, List.filterMap_cons, id, List.map_cons, this, List.mem_cons, false_or]
      by_cases hk : k ∈ List.map (fun x => x.1) (List.filterMap id l)
      · simp [hk]
      · simp [hk]
theorem keys_gdel : ∀ (xs : Gp KI B) (k : Int), keysG (gdel KI xs k) = (keysG xs).erase k
  | [], k => by simp [gdel, keysG]
  | none :: l, k => by
    have := keys_gdel l k
    simp only [keysG] at this ⊢
    simp only [gdel, List.filterMap_cons, id, this]
  | some (k', v') :: l, k => by
    have := keys_gdel l k
    simp only [keysG] at this ⊢
    simp only [gdel, eqI]
    by_cases h : k = k'
    · subst h; simp
    · simp only [h, decide_false, cond_false, List.filterMap_cons, id, List.map_cons, this]
      rw [List.erase_cons_tail (by simpa using fun e => h e.symm)]
theorem glen_keys : ∀ (xs : Gp KI B), glen KI xs = (keysG xs).length
  | [] => rfl
  | none :: l => by have := glen_keys l; simp only [keysG] at this ⊢; simp only [glen, this, List.filterMap_cons, id]
  | some (k', v') :: l => by have := glen_keys l; simp only [keysG] at this ⊢; simp only [glen, this, List.filterMap_cons, id, List.map_cons, List.length_cons]
end
/-! ### the timers' order, whole -/
structure Inv (x : Tm) : Prop where
  ok : Ok x.1 x.2.1
  heap : Heap ltP (hv x.1 x.2.1) x.2.1.length
  cap : x.2.1.length ≤ 1024
  map : ∀ id k, gget KI x.2.2 id = some k ↔ k ∈ x.2.1 ∧ (it x.1 k).1 = id
  uq : (keysG x.2.2).Nodup
  cnt : (keysG x.2.2).length = x.2.1.length
/-- times and numbers that are there -/
def els (x : Tm) : List (Int × Int) := x.2.1.map (od x.1)
theorem it_od {A A' : List It} {k : Nat} (h : od A' k = od A k) : (it A' k).1 = (it A k).1 ∧ (it A' k).2.1 = (it A k).2.1 := by
  unfold od at h
  simp only [Prod.mk.injEq] at h
  exact ⟨h.2, h.1⟩
/-- The items stand otherwise: all else is as it was. -/
theorem Inv.move {A A' : List It} {ks ks' : List Nat} {M : Gp KI Nat} (h2 : Ok A' ks') (h3 : Sm A A') (h4 : ks'.Perm ks) (h5 : Heap ltP (hv A' ks') ks.length) (hc : ks.length ≤ 1024) (hm : ∀ id k, gget KI M id = some k ↔ k ∈ ks ∧ (it A k).1 = id) (hu : (keysG M).Nodup) (hn : (keysG M).length = ks.length) :
    Inv (A', (ks', M)) ∧ (els (A', (ks', M))).Perm (ks.map (od A)) := by
  refine ⟨⟨h2, ?_, ?_, fun id k => ?_, hu, ?_⟩, ?_⟩
  · rw [h4.length_eq]; exact h5
  · rw [h4.length_eq]; exact hc
  · rw [hm id k, h4.mem_iff, (it_od (h3.2 k)).1]
  · rw [h4.length_eq]; exact hn
  · unfold els
    have : ks'.map (od A') = ks'.map (od A) := List.map_congr_left fun k _ => h3.2 k
    rw [this]
    exact h4.map _
theorem inv_new : Inv ([], ([], [])) := ⟨⟨List.nodup_nil, fun k h => by simp at h, fun i h => by simp at h, by simp⟩, fun i h0 h => by simp at h, by simp, fun id k => by simp [gget], List.nodup_nil, rfl⟩
theorem set_loop_eq : timer_Timers_Set.l24 = timer_Timers_Set.l17 := rfl
theorem drop_loop_eq : timer_Timers_Drop.l16 = timer_Timers_Set.l17 := rfl
theorem rng_eq (id at_ : Int) : ((bif !(decide (id < 1)) then (bif !(decide (id > 4611686018427387904)) then (bif !(decide (at_ < 0)) then (some (decide (at_ > 4611686018427387904))) else (some true)) else (some true)) else (some true)) : Option Bool) = some (!(decide (1 ≤ id) && decide (id ≤ 4611686018427387904) && decide (0 ≤ at_) && decide (at_ ≤ 4611686018427387904))) := by
  by_cases h1 : id < 1
  · have : ¬ 1 ≤ id := by omega
    simp [h1, this]
  · have h1' : 1 ≤ id := by omega
    by_cases h2 : id > 4611686018427387904
    · have : ¬ id ≤ 4611686018427387904 := by omega
      simp [h1, h2, this]
    · have h2' : id ≤ 4611686018427387904 := by omega
      by_cases h3 : at_ < 0
      · have : ¬ 0 ≤ at_ := by omega
        simp [h1, h2, h3, this]
      · have h3' : 0 ≤ at_ := by omega
        by_cases h4 : at_ > 4611686018427387904
        · have : ¬ at_ ≤ 4611686018427387904 := by omega
          simp [h1, h2, h3, h4, this]
        · have h4' : at_ ≤ 4611686018427387904 := by omega
          simp [h1, h2, h3, h4, h1', h2', h3', h4']
/-- whether a number and a time are in range -/
def inR (id at_ : Int) : Bool := decide (1 ≤ id) && decide (id ≤ 4611686018427387904) && decide (0 ≤ at_) && decide (at_ ≤ 4611686018427387904)
theorem set_arg (x : Tm) (id at_ : Int) (h : inR id at_ = false) : timer_Timers_Set.f x id at_ = some (x, 1) := by
  unfold timer_Timers_Set.f
  rw [rng_eq]
  unfold inR at h
  rw [h]
  rfl
theorem it_set (A : List It) (k : Nat) (p : It) (q : Nat) (hk : k < A.length) : it (A.set k p) q = if q = k then p else it A q := by
  unfold it
  rw [List.getD_eq_getElem?_getD, List.getElem?_set]
  by_cases h : k = q
  · subst h; simp [hk]
  · rw [if_neg h, if_neg (fun e => h e.symm), ← List.getD_eq_getElem?_getD]
theorem it_app (A : List It) (p : It) (q : Nat) (hq : q < A.length) : it (A ++ [p]) q = it A q := by
  unfold it
  rw [List.getD_eq_getElem?_getD, List.getElem?_append_left hq, ← List.getD_eq_getElem?_getD]
theorem it_end (A : List It) (p : It) : it (A ++ [p]) A.length = p := by
  unfold it
  rw [List.getD_eq_getElem?_getD, List.getElem?_append_right (Nat.le_refl _), Nat.sub_self]; rfl
/-- All but a number's. -/
def rm (id : Int) (l : List (Int × Int)) : List (Int × Int) := l.filter fun p => p.2 != id
theorem map_set_perm {α β : Type} {f g : α → β} : ∀ {ks : List α} {k : α}, ks.Nodup → k ∈ ks → (∀ q, q ≠ k → f q = g q) → (p : β → Bool) → (∀ q ∈ ks, q ≠ k → p (g q) = true) → p (g k) = false → (ks.map f).Perm (f k :: (ks.map g).filter p)
  | [], k, _, h, _, _, _, _ => by simp at h
  | a :: l, k, hn, h, he, p, hp, hk => by
    rw [List.nodup_cons] at hn
    by_cases e : a = k
    · subst e
      have h1 : l.map f = l.map g := List.map_congr_left fun q hq => he q fun e => hn.1 (e ▸ hq)
      have h2 : (l.map g).filter p = l.map g := List.filter_eq_self.2 fun b hb => by
        obtain ⟨q, hq, rfl⟩ := List.mem_map.1 hb
        exact hp q (List.mem_cons_of_mem _ hq) fun e => hn.1 (e ▸ hq)
      rw [List.map_cons, List.map_cons, List.filter_cons_of_neg (by simp [hk]), h1, h2]
    · have hkl : k ∈ l := by
        rcases List.mem_cons.1 h with h | h
        · exact absurd h.symm e
        · exact h
      have ih := map_set_perm (ks := l) hn.2 hkl he p (fun q hq => hp q (List.mem_cons_of_mem _ hq)) hk
      rw [List.map_cons, List.map_cons, List.filter_cons_of_pos (hp a (List.mem_cons_self ..) e), he a e]
      exact (ih.cons _).trans (List.Perm.swap ..)
theorem filter_out {α β : Type} {g : α → β} : ∀ {ks : List α} {k : α} {ks2 : List α}, ks.Nodup → ks.Perm (ks2 ++ [k]) → (p : β → Bool) → (∀ q ∈ ks, q ≠ k → p (g q) = true) → p (g k) = false → (ks2.map g).Perm ((ks.map g).filter p) := by
  intro ks k ks2 hn hp p h1 h2
  have h3 := ((hp.map g).filter p)
  rw [List.map_append, List.filter_append] at h3
  have h4 : ([k].map g).filter p = [] := by simp [h2]
  have hn2 := hp.nodup_iff.1 hn
  rw [List.nodup_append] at hn2
  have h5 : (ks2.map g).filter p = ks2.map g := List.filter_eq_self.2 fun b hb => by
    obtain ⟨q, hq, rfl⟩ := List.mem_map.1 hb
    exact h1 q (hp.mem_iff.2 (by simp [hq])) fun e => hn2.2.2 q hq k (by simp) e
  rw [h4, h5, List.append_nil] at h3
  exact h3.symm
theorem eta (x : Tm) : ((x.1, (x.2.1, x.2.2)) : Tm) = x := rfl
/-- A number that is there. -/
theorem Inv.at_ {x : Tm} (h : Inv x) {id : Int} {k : Nat} (hg : gget KI x.2.2 id = some k) : k ∈ x.2.1 ∧ (it x.1 k).1 = id ∧ k < x.1.length ∧ ∃ i : Nat, i < x.2.1.length ∧ x.2.1.getD i 0 = k ∧ (it x.1 k).2.2 = (i : Int) := by
  obtain ⟨h1, h2⟩ := (h.map id k).1 hg
  obtain ⟨i, hi, e⟩ := List.mem_iff_getElem.1 h1
  have e2 : x.2.1.getD i 0 = k := by rw [List.getD_eq_getElem?_getD, List.getElem?_eq_getElem hi]; exact e
  exact ⟨h1, h2, h.ok.lt k h1, i, hi, e2, by rw [← e2]; exact h.ok.pl i hi⟩
theorem Inv.one {x : Tm} (h : Inv x) {k q : Nat} (hk : k ∈ x.2.1) (hq : q ∈ x.2.1) (e : (it x.1 k).1 = (it x.1 q).1) : k = q := by
  have h1 := (h.map (it x.1 k).1 k).2 ⟨hk, rfl⟩
  have h2 := (h.map (it x.1 k).1 q).2 ⟨hq, e.symm⟩
  rw [h1] at h2
  exact Option.some.inj h2
theorem Inv.none {x : Tm} (h : Inv x) {id : Int} (hg : gget KI x.2.2 id = none) : rm id (els x) = els x ∧ ∀ k ∈ x.2.1, (it x.1 k).1 ≠ id := by
  have h1 : ∀ k ∈ x.2.1, (it x.1 k).1 ≠ id := fun k hk e => by
    have := (h.map id k).2 ⟨hk, e⟩
    rw [hg] at this; cases this
  refine ⟨List.filter_eq_self.2 fun p hp => ?_, h1⟩
  obtain ⟨k, hk, rfl⟩ := List.mem_map.1 hp
  simpa [od] using h1 k hk
theorem set_there (x : Tm) (h : Inv x) (id at_ : Int) (hr : inR id at_ = true) {k : Nat} (hg : gget KI x.2.2 id = some k) : ∃ x', timer_Timers_Set.f x id at_ = some (x', 0) ∧ Inv x' ∧ (els x').Perm ((at_, id) :: rm id (els x)) := by
  obtain ⟨A, ks, M⟩ := x
  obtain ⟨k1, k2, k3, i, k4, k5, k6⟩ := h.at_ hg
  simp only at hg k1 k2 k3 k4 k5 k6
  let A1 := A.set k ((A.getD k (0, (0, 0))).1, (at_, (A.getD k (0, (0, 0))).2.2))
  have hA1 : ∀ q, it A1 q = if q = k then (id, (at_, (i : Int))) else it A q := fun q => by
    rw [it_set A k _ q k3]
    by_cases e : q = k
    · subst e
      rw [if_pos rfl, if_pos rfl, ← k6, ← k2]; rfl
    · rw [if_neg e, if_neg e]
  have hok : Ok A1 ks := ⟨h.ok.nd, fun q hq => by simpa [A1] using h.ok.lt q hq, fun j hj => by
    rw [hA1]
    by_cases e : ks.getD j 0 = k
    · rw [if_pos e]
      have := nd_inj h.ok.nd hj k4 (e.trans k5.symm)
      rw [this]
    · rw [if_neg e]; exact h.ok.pl j hj, h.ok.len⟩
  have hfix : FixI ltP (hv A1 ks) ks.length i := fixI_of ltP_ord h.heap (Nat.le_refl _) k4 fun j hj hjn => by
    unfold hv od
    rw [hA1, if_neg (fun e => hj (nd_inj h.ok.nd hjn k4 (e.trans k5.symm)))]
  have hpl : (A1.getD k (0, (0, 0))).2.2 = (i : Int) := by
    have : it A1 k = _ := hA1 k
    rw [if_pos rfl] at this
    show (it A1 k).2.2 = _
    rw [this]
  obtain ⟨i', A', ks', e1, e2, e3, e4, e5, e6⟩ := dn_loop M (A, (ks, M)) rfl hok k4 (Nat.le_refl _) hfix
  have hmap : ∀ id' q, gget KI M id' = some q ↔ q ∈ ks ∧ (it A1 q).1 = id' := fun id' q => by
    rw [h.map id' q]
    simp only
    rw [hA1]
    by_cases e : q = k
    · subst e; rw [if_pos rfl, k2]
    · rw [if_neg e]
  have hperm : (ks.map (od A1)).Perm ((at_, id) :: rm id (els (A, (ks, M)))) := by
    have := map_set_perm (f := od A1) (g := od A) (ks := ks) (k := k) h.ok.nd k1 (fun q hq => by unfold od; rw [hA1, if_neg hq]) (fun p => p.2 != id) (fun q hq hqk => by
      simp only [od, bne_iff_ne, ne_eq]
      exact fun e => hqk (h.one hq k1 (e.trans k2.symm))) (by simp [od, k2])
    rwa [show od A1 k = (at_, id) by unfold od; rw [hA1, if_pos rfl]] at this
  unfold timer_Timers_Set.f
  rw [rng_eq]
  unfold inR at hr
  rw [hr]
  simp only [Bool.not_true, Option.bind_some, cond_false, hg]
  have hopt : ∀ {X : Type} (f : Nat → Option X) (g : Option X), optS (some k) f g = f k := fun f g => rfl
  rw [hopt]
  show ∃ x', ((loopO (timer_Timers_Set.l3 (A, (ks, M))) ((A1.getD k (0, (0, 0))).2.2, (A1, (ks, M)))).bind fun e16 => ((bif (!(decide (e16.1 > ((A1.getD k (0, (0, 0))).2.2)))) then ((loopO (timer_Timers_Set.l17) ((A1.getD k (0, (0, 0))).2.2, (e16.2.1, (e16.2.2.1, e16.2.2.2)))).bind fun e22 => some (e22.1, (e22.2.1, e22.2.2))) else (some (e16.2.1, (e16.2.2.1, e16.2.2.2)))) : Option Tm).bind fun e23 => some ((e23.1, (e23.2.1, e23.2.2)), (0 : Int))) = some (x', 0) ∧ _
  rw [hpl, e1]
  simp only [Option.bind_some]
  rcases e6 with ⟨rfl, rfl, rfl, hu⟩ | ⟨hlt, hh⟩
  · have : decide ((i' : Int) > (i' : Int)) = false := by simp
    rw [this]
    obtain ⟨A2, ks2, f1, f2, f3, f4, f5, _⟩ := up_loop M i' A1 ks' hok k4 (Nat.le_refl _) hu
    simp only [Bool.not_false, cond_true, f1, Option.bind_some]
    obtain ⟨g1, g2⟩ := Inv.move (M := M) f2 f3 f4 f5 h.cap hmap h.uq h.cnt
    exact ⟨_, rfl, g1, g2.trans hperm⟩
  · have : decide ((i' : Int) > (i : Int)) = true := by simp; omega
    rw [this]
    simp only [Bool.not_true, cond_false, Option.bind_some]
    obtain ⟨g1, g2⟩ := Inv.move (M := M) e2 e3 e4 hh h.cap hmap h.uq h.cnt
    exact ⟨_, rfl, g1, g2.trans hperm⟩
theorem set_full (x : Tm) (h : Inv x) (id at_ : Int) (hr : inR id at_ = true) (hg : gget KI x.2.2 id = none) (hc : x.2.1.length = 1024) : timer_Timers_Set.f x id at_ = some (x, 10) := by
  unfold timer_Timers_Set.f
  rw [rng_eq]
  unfold inR at hr
  rw [hr]
  simp only [Bool.not_true, Option.bind_some, cond_false, hg, optS]
  have : (((glen KI x.2.2 : Nat) : Int) == 1024) = true := by
    rw [glen_keys, h.cnt, hc]; rfl
  rw [this]
  rfl
theorem set_new (x : Tm) (h : Inv x) (id at_ : Int) (hr : inR id at_ = true) (hg : gget KI x.2.2 id = none) (hc : x.2.1.length < 1024) : ∃ x', timer_Timers_Set.f x id at_ = some (x', 0) ∧ Inv x' ∧ (els x').Perm ((at_, id) :: rm id (els x)) := by
  obtain ⟨A, ks, M⟩ := x
  obtain ⟨hrm, hne⟩ := h.none hg
  simp only at hg hc
  let A1 := (A ++ [(id, (at_, 0))]).set A.length (((A ++ [(id, (at_, 0))]).getD A.length (0, (0, 0))).1, (((A ++ [(id, (at_, 0))]).getD A.length (0, (0, 0))).2.1, (ks.length : Int)))
  have hlen : A1.length = A.length + 1 := by simp [A1]
  have hend : it (A ++ [(id, (at_, 0))]) A.length = (id, (at_, 0)) := it_end A _
  have hA1 : ∀ q, it A1 q = if q = A.length then (id, (at_, (ks.length : Int))) else it (A ++ [(id, (at_, 0))]) q := fun q => by
    rw [it_set _ _ _ q (by simp)]
    by_cases e : q = A.length
    · rw [if_pos e, if_pos e]
      have : (A ++ [(id, (at_, (0 : Int)))]).getD A.length (0, (0, 0)) = (id, (at_, 0)) := hend
      rw [this]
    · rw [if_neg e, if_neg e]
  have hA2 : ∀ q, q < A.length → it A1 q = it A q := fun q hq => by rw [hA1, if_neg (by omega), it_app A _ q hq]
  have hnot : A.length ∉ ks := fun hm => by have := h.ok.lt _ hm; simp only at this; omega
  have hg1 : ∀ j, j < ks.length → (ks ++ [A.length]).getD j 0 = ks.getD j 0 := fun j hj => by
    rw [List.getD_eq_getElem?_getD, List.getElem?_append_left hj, ← List.getD_eq_getElem?_getD]
  have hg2 : (ks ++ [A.length]).getD ks.length 0 = A.length := by
    rw [List.getD_eq_getElem?_getD, List.getElem?_append_right (Nat.le_refl _), Nat.sub_self]; rfl
  have hok : Ok A1 (ks ++ [A.length]) := by
    refine ⟨?_, fun q hq => ?_, fun j hj => ?_, by simp; omega⟩
    · rw [List.nodup_append]
      exact ⟨h.ok.nd, by simp, fun a ha b hb e => hnot (by simp only [List.mem_singleton] at hb; rw [← hb, ← e]; exact ha)⟩
    · rw [hlen]
      rcases List.mem_append.1 hq with hq | hq
      · have := h.ok.lt q hq; simp only at this; omega
      · simp only [List.mem_singleton] at hq; omega
    · simp only [List.length_append, List.length_cons, List.length_nil] at hj
      by_cases e : j = ks.length
      · subst e
        rw [hg2, hA1, if_pos rfl]
      · have hj' : j < ks.length := by omega
        rw [hg1 j hj', hA2 _ (h.ok.lt _ (getD_mem hj'))]
        exact h.ok.pl j hj'
  have hu : UpI ltP (hv A1 (ks ++ [A.length])) (ks.length + 1) ks.length := upI_push (hv A ks) h.heap _ fun j hj => by
    unfold hv od
    rw [hg1 j hj, hA2 _ (h.ok.lt _ (getD_mem hj))]
  obtain ⟨A2, ks2, f1, f2, f3, f4, f5, _⟩ := up_loop (gset KI M id A.length) ks.length A1 (ks ++ [A.length]) hok (by omega) (by simp) hu
  have hkm : id ∉ keysG M := gget_none.1 hg
  have hkeys : keysG (gset KI M id A.length) = keysG M ++ [id] := by rw [keys_gset, if_neg hkm]
  have hcnt := h.cnt
  simp only at hcnt
  have hmap : ∀ id' q, gget KI (gset KI M id A.length) id' = some q ↔ q ∈ ks ++ [A.length] ∧ (it A1 q).1 = id' := fun id' q => by
    rw [gget_gset, List.mem_append, List.mem_singleton]
    by_cases e : id' = id
    · subst e
      rw [if_pos rfl]
      constructor
      · intro hq
        obtain rfl := Option.some.inj hq
        exact ⟨.inr rfl, by rw [hA1, if_pos rfl]⟩
      · rintro ⟨hq | hq, h2⟩
        · rw [hA2 q (h.ok.lt q hq)] at h2
          exact absurd h2 (hne q hq)
        · rw [hq]
    · rw [if_neg e, h.map id' q]
      simp only
      constructor
      · rintro ⟨h1, h2⟩
        exact ⟨.inl h1, by rw [hA2 q (h.ok.lt q h1)]; exact h2⟩
      · rintro ⟨h1 | h1, h2⟩
        · exact ⟨h1, by rw [hA2 q (h.ok.lt q h1)] at h2; exact h2⟩
        · subst h1
          rw [hA1, if_pos rfl] at h2
          exact absurd h2.symm e
  obtain ⟨g1, g2⟩ := Inv.move (M := gset KI M id A.length) f2 f3 f4 (by simpa using f5) (by simp; omega) hmap (by
    rw [hkeys, List.nodup_append]
    exact ⟨h.uq, by simp, fun a ha b hb e => hkm (by simp only [List.mem_singleton] at hb; rw [← hb, ← e]; exact ha)⟩) (by rw [hkeys]; simp [hcnt])
  have hperm : ((ks ++ [A.length]).map (od A1)).Perm ((at_, id) :: rm id (els (A, (ks, M)))) := by
    rw [hrm, List.map_append]
    have e1 : ks.map (od A1) = els (A, (ks, M)) := List.map_congr_left fun q hq => by unfold od; rw [hA2 q (h.ok.lt q hq)]
    have e2 : od A1 A.length = (at_, id) := by unfold od; rw [hA1, if_pos rfl]
    rw [e1, List.map_cons, List.map_nil, e2]
    exact List.perm_append_comm
  unfold timer_Timers_Set.f
  rw [rng_eq]
  unfold inR at hr
  rw [hr]
  simp only [Bool.not_true, Option.bind_some, cond_false, hg, optS]
  have e1 : (((glen KI M : Nat) : Int) == 1024) = false := by
    rw [glen_keys, hcnt]
    simp
    omega
  have e2 : decide (ks.length + ([A.length] : List Nat).length ≤ 1099511627776) = true := by simp; omega
  rw [e1, e2]
  simp only [cond_false, cond_true, set_loop_eq]
  have e3 : IntKind.i64.wrap (((ks ++ [A.length]).length : Int) - 1) = (ks.length : Int) := by
    have hl : (ks ++ [A.length]).length = ks.length + 1 := by simp
    rw [hl, wr _ (by omega) (by omega)]; omega
  rw [e3]
  show ∃ x', ((loopO timer_Timers_Set.l17 ((ks.length : Int), (A1, (ks ++ [A.length], gset KI M id A.length)))).bind fun e29 => some ((e29.1, (e29.2.1, e29.2.2)), (0 : Int))) = some (x', 0) ∧ _
  rw [f1]
  exact ⟨_, rfl, g1, g2.trans hperm⟩
end Go.Proofs.Ytfcgafnmlkiimaa.Pure
