/- Plain laws of lines that are put together: what the program's Merge leaves; no statement of its own. -/
import Derived.Test.YtijpigojhildgaaPb
import Derived.Test.YtijpigojhildgaaPg
import Derived.Test.YtijpigojhildgaaSA
namespace Go.Proofs.Ytijpigojhildgaa.Pure
open Go.Vk Go.Am Go.Sort Go.Proofs Go.Proofs.Ytijpigojhildgaa.Y
set_option linter.unusedVariables false
set_option linter.unusedSimpArgs false
abbrev L3 := Int × Int × Int
/-- what lines are put together by -/
def kx (x : L3) : L3 := (x.1, 0, x.2.2)
abbrev kT : Ty := .pair (.int .i64) (.pair (.int .i64) (.int .i64))
def grp (L : Ln) (k : L3) : Ln := L.filter (fun x => decide (kx x = k))
def gs (L : Ln) (k : L3) : Int := bl (grp L k)
def ltK (a b : L3) : Prop := a.1 < b.1 ∨ (a.1 = b.1 ∧ a.2.2 < b.2.2)
theorem ltK_irrefl (a : L3) : ¬ ltK a a := by unfold ltK; omega
theorem ltK_trans {a b c : L3} (h : ltK a b) (k : ltK b c) : ltK a c := by unfold ltK at *; omega
theorem ltK_kx {a b : L3} (h : ltK a b) : kx a ≠ kx b := by
  unfold kx; intro e
  simp only [Prod.mk.injEq] at e
  unfold ltK at h; omega
theorem ltK_tri {a b : L3} (h : ¬ ltK b a) (k : kx a ≠ kx b) : ltK a b := by
  unfold kx at k
  simp only [ne_eq, Prod.mk.injEq, true_and] at k
  unfold ltK at *; omega
/-- What comes of lines, put together. -/
structure IsM (L out : Ln) (ok : Bool) : Prop where
  yes : ok = true → out.Pairwise ltK ∧ (∀ x, x ∈ out ↔ ∃ y ∈ L, kx y = kx x ∧ x.2.1 = gs L (kx x)) ∧ ∀ y ∈ L, i64 (gs L (kx y))
  no : ok = false → out = [] ∧ ∃ y ∈ L, ¬ i64 (gs L (kx y))
theorem sorted_uniq : ∀ {l l' : Ln}, l.Pairwise ltK → l'.Pairwise ltK → (∀ x, x ∈ l ↔ x ∈ l') → l = l'
  | [], [], _, _, _ => rfl
  | [], y :: l', _, _, h => by have := (h y).2 (by simp); simp at this
  | x :: l, [], _, _, h => by have := (h x).1 (by simp); simp at this
  | x :: l, y :: l', h1, h2, h => by
    rw [List.pairwise_cons] at h1 h2
    have hxy : x = y := by
      rcases List.mem_cons.1 ((h x).1 (by simp)) with e | hx
      · exact e
      · rcases List.mem_cons.1 ((h y).2 (by simp)) with e | hy
        · exact e.symm
        · exact absurd (ltK_trans (h1.1 y hy) (h2.1 x hx)) (ltK_irrefl _)
    subst hxy
    rw [sorted_uniq h1.2 h2.2 fun z => ?_]
    constructor
    · intro hz
      rcases List.mem_cons.1 ((h z).1 (by simp [hz])) with e | k
      · subst e; exact absurd (h1.1 z hz) (ltK_irrefl _)
      · exact k
    · intro hz
      rcases List.mem_cons.1 ((h z).2 (by simp [hz])) with e | k
      · subst e; exact absurd (h2.1 z hz) (ltK_irrefl _)
      · exact k
theorem sumL_perm {l l' : List Int} (h : l.Perm l') : sumL l = sumL l' := by
  induction h with
  | nil => rfl
  | cons x _ ih => simp only [sumL, ih]
  | swap x y l => simp only [sumL]; omega
  | trans _ _ ih1 ih2 => exact ih1.trans ih2
theorem bl_perm {l l' : Ln} (h : l.Perm l') : bl l = bl l' := sumL_perm (h.map _)
theorem gs_perm {L L' : Ln} (h : L.Perm L') (k : L3) : gs L k = gs L' k := bl_perm (h.filter _)
theorem IsM.uniq {L L' o o' : Ln} {ok ok' : Bool} (hp : L.Perm L') (h : IsM L o ok) (h' : IsM L' o' ok') : o = o' ∧ ok = ok' := by
  have hok : ok = ok' := by
    cases hk : ok <;> cases hk' : ok' <;> first | rfl | skip
    · obtain ⟨_, y, hy, hn⟩ := h.no hk
      have := (h'.yes hk').2.2 y (hp.mem_iff.1 hy)
      rw [← gs_perm hp] at this
      exact absurd this hn
    · obtain ⟨_, y, hy, hn⟩ := h'.no hk'
      have := (h.yes hk).2.2 y (hp.mem_iff.2 hy)
      rw [gs_perm hp] at this
      exact absurd this hn
  subst hok
  refine ⟨?_, rfl⟩
  cases hk : ok with
  | false => rw [(h.no hk).1, (h'.no hk).1]
  | true =>
    obtain ⟨h1, h2, _⟩ := h.yes hk
    obtain ⟨k1, k2, _⟩ := h'.yes hk
    refine sorted_uniq h1 k1 fun x => ?_
    rw [h2, k2]
    constructor
    · rintro ⟨y, q1, q2, q3⟩; exact ⟨y, hp.mem_iff.1 q1, q2, by rw [← gs_perm hp]; exact q3⟩
    · rintro ⟨y, q1, q2, q3⟩; exact ⟨y, hp.mem_iff.2 q1, q2, by rw [gs_perm hp]; exact q3⟩
/-! ### maps as lists -/
theorem eqk (a b : L3) : eqT kT a b = true ↔ a = b := eqT_iff (T := kT) rfl
section
variable {B : Type}
theorem gget_mem : ∀ {m : Gp kT B} {k : L3} {v : B}, ((m.filterMap id).map (·.1)).Nodup → (gget kT m k = some v ↔ (k, v) ∈ m.filterMap id)
  | [], k, v, _ => by simp [gget]
  | none :: l, k, v, h => by simpa [gget] using gget_mem (m := l) (by simpa using h)
  | some (k', v') :: l, k, v, h => by
    simp only [List.filterMap_cons, id_eq, List.map_cons, List.nodup_cons] at h
    simp only [gget, List.filterMap_cons, id_eq, List.mem_cons, Prod.mk.injEq]
    cases he : eqT kT k k' with
    | true =>
      obtain rfl := (eqk _ _).1 he
      simp only [cond_true, Option.some.injEq, true_and]
      constructor
      · intro e; exact .inl e.symm
      · rintro (e | hm)
        · exact e.symm
        · exact absurd (List.mem_map.2 ⟨_, hm, rfl⟩) h.1
    | false =>
      have hne : k ≠ k' := fun e => by rw [(eqk k k').2 e] at he; cases he
      simp only [cond_false, hne, false_and, false_or]
      exact gget_mem h.2
theorem gset_keys : ∀ (m : Gp kT B) (k : L3) (v : B), ((gset kT m k v).filterMap id).map (·.1) = if k ∈ (m.filterMap id).map (·.1) then (m.filterMap id).map (·.1) else (m.filterMap id).map (·.1) ++ [k]
  | [], k, v => by simp [gset]
  | none :: l, k, v => gset_keys l k v
  | some (k', v') :: l, k, v => by
    cases he : eqT kT k k' with
    | true =>
      obtain rfl := (eqk _ _).1 he
      simp [gset, he]
    | false =>
      have hne : k ≠ k' := fun e => by rw [(eqk k k').2 e] at he; cases he
      have ih := gset_keys l k v
      simp only [gset, he, cond_false, List.filterMap_cons, id_eq, List.map_cons, ih, List.mem_cons, hne, false_or]
      split <;> simp
theorem gset_mem : ∀ {m : Gp kT B} {k : L3} {v : B} {p : L3 × B}, ((m.filterMap id).map (·.1)).Nodup → (p ∈ (gset kT m k v).filterMap id ↔ p = (k, v) ∨ (p ∈ m.filterMap id ∧ p.1 ≠ k))
  | [], k, v, p, _ => by simp [gset]
  | none :: l, k, v, p, h => by simpa [gset] using gset_mem (m := l) (by simpa using h)
  | some (k', v') :: l, k, v, p, h => by
    simp only [List.filterMap_cons, id_eq, List.map_cons, List.nodup_cons] at h
    cases he : eqT kT k k' with
    | true =>
      obtain rfl := (eqk _ _).1 he
      simp only [gset, he, cond_true, List.filterMap_cons, id_eq, List.mem_cons]
      constructor
      · rintro (e | hp)
        · exact .inl e
        · exact .inr ⟨.inr hp, fun e => h.1 (List.mem_map.2 ⟨p, hp, e⟩)⟩
      · rintro (e | ⟨e | hp, hn⟩)
        · exact .inl e
        · subst e; exact absurd rfl hn
        · exact .inr hp
    | false =>
      have hne : k ≠ k' := fun e => by rw [(eqk k k').2 e] at he; cases he
      have ih := gset_mem (m := l) (k := k) (v := v) (p := p) h.2
      simp only [gset, he, cond_false, List.filterMap_cons, id_eq, List.mem_cons, ih]
      constructor
      · rintro (e | e | ⟨hp, hn⟩)
        · subst e; exact .inr ⟨.inl rfl, fun e => hne e.symm⟩
        · exact .inl e
        · exact .inr ⟨.inr hp, hn⟩
      · rintro (e | ⟨e | hp, hn⟩)
        · exact .inr (.inl e)
        · exact .inl e
        · exact .inr (.inr ⟨hp, hn⟩)
end
/-- The map, behind so many lines. -/
def mp (L : Ln) : Gp kT Ln := L.foldl (fun m x => gset kT m (kx x) ((gget kT m (kx x)).getD [] ++ [x])) []
theorem mp_snoc (L : Ln) (x : L3) : mp (L ++ [x]) = gset kT (mp L) (kx x) ((gget kT (mp L) (kx x)).getD [] ++ [x]) := by simp [mp]
theorem grp_snoc (L : Ln) (x k : L3) : grp (L ++ [x]) k = grp L k ++ (if kx x = k then [x] else []) := by
  unfold grp
  rw [List.filter_append]
  congr 1
  by_cases h : kx x = k <;> simp [h]
theorem grp_none {L : Ln} {k : L3} (h : ∀ y ∈ L, kx y ≠ k) : grp L k = [] := by
  unfold grp
  rw [List.filter_eq_nil_iff]
  intro y hy
  simpa using h y hy
theorem mp_inv (n : Nat) : ∀ (L : Ln), L.length = n → (((mp L).filterMap id).map (·.1)).Nodup ∧ (∀ p ∈ (mp L).filterMap id, p.2 = grp L p.1 ∧ ∃ y ∈ L, kx y = p.1) ∧ ∀ y ∈ L, ∃ p ∈ (mp L).filterMap id, p.1 = kx y := by
  induction n with
  | zero =>
    intro L hL
    obtain rfl := List.eq_nil_of_length_eq_zero hL
    simp [mp]
  | succ n ih =>
    intro L hL
    obtain ⟨L, x, rfl⟩ : ∃ L' x, L = L' ++ [x] := ⟨L.dropLast, L.getLast (by intro e; simp [e] at hL), (List.dropLast_concat_getLast _).symm⟩
    obtain ⟨h1, h2, h3⟩ := ih L (by simpa using hL)
    have hg : (gget kT (mp L) (kx x)).getD [] = grp L (kx x) := by
      cases hq : gget kT (mp L) (kx x) with
      | none =>
        refine (grp_none fun y hy e => ?_).symm
        obtain ⟨p, hp, he⟩ := h3 y hy
        have := (gget_mem (m := mp L) (k := kx x) (v := p.2) h1).2 (by rw [← e, ← he]; exact hp)
        rw [hq] at this; cases this
      | some v =>
        have := (gget_mem h1).1 hq
        exact (h2 _ this).1
    rw [mp_snoc, hg]
    refine ⟨?_, fun p hp => ?_, fun y hy => ?_⟩
    · rw [gset_keys]
      split
      · exact h1
      · rename_i hn
        rw [List.nodup_append]
        exact ⟨h1, by simp, fun a ha b hb e => hn (by simp at hb; rw [← hb, ← e]; exact ha)⟩
    · rcases (gset_mem h1).1 hp with rfl | ⟨hp, hn⟩
      · exact ⟨by simp [grp_snoc], x, by simp, rfl⟩
      · obtain ⟨q1, y, q2, q3⟩ := h2 p hp
        exact ⟨by rw [grp_snoc, if_neg (fun e => hn e.symm), List.append_nil]; exact q1, y, by simp [q2], q3⟩
    · rcases List.mem_append.1 hy with hy | hy
      · obtain ⟨p, hp, he⟩ := h3 y hy
        by_cases hk : p.1 = kx x
        · exact ⟨_, (gset_mem h1).2 (.inl rfl), by simp only; rw [← hk, he]⟩
        · exact ⟨p, (gset_mem h1).2 (.inr ⟨hp, hk⟩), he⟩
      · simp only [List.mem_singleton] at hy
        subst hy
        exact ⟨_, (gset_mem h1).2 (.inl rfl), rfl⟩
/-! ### the program's -/
theorem i64_of {l : Ln} (h : ∀ x ∈ l, i64 x.2.1) : ∀ z ∈ l.map (fun x => x.2.1), -9223372036854775808 ≤ z ∧ z ≤ 9223372036854775807 := by
  intro z hz
  obtain ⟨x, hx, rfl⟩ := List.mem_map.1 hz
  exact h x hx
theorem blocks_eq (l : Ln) (hl : l.length ≤ 1048576) (h : ∀ x ∈ l, i64 x.2.1) : tier_Blocks.f l = some (FI (bl l)) := by
  unfold tier_Blocks.f
  rw [Go.Pg.loop_up (f := tier_Blocks.l1 l) (s0 := ([], 0)) (fun i => ((l.take i).map (fun x => x.2.1), (i : Int))) l.length (b := l.map (fun x => x.2.1)) rfl ?_ ?_]
  · simp only [Option.bind_some]
    rw [sum_eq _ (by simpa using hl) (i64_of h)]
    rfl
  · intro i hi
    have hlen : ((l.take i).map (fun x : L3 => x.2.1)).length + 1 ≤ 1099511627776 := by simp; omega
    simp only [tier_Blocks.l1, Go.Pg.ilt hi, Go.Pg.nn, Go.Pg.at_ l i hi, cond_true, Bool.and_self, Go.Pg.wrS i (by omega), Go.Pg.take_succ l i hi, List.map_append, List.length_singleton, decide_eq_true hlen, List.map_cons, List.map_nil]
  · simp only [tier_Blocks.l1, Go.Pg.ige, cond_false, List.take_length]
theorem key_eq (x : L3) : tier_key.f (x.1, x.2.1, x.2.2) = some (kx x) := rfl
theorem own_map (a b : Ln) (hl : (a ++ b).length ≤ 1048576) : loopO (tier_Merge.l3 a b) (0, []) = some (mp (a ++ b)) := by
  rw [Go.Pg.loop_up (f := tier_Merge.l3 a b) (s0 := (0, [])) (fun i => ((i : Int), mp ((a ++ b).take i))) (a ++ b).length (b := mp (a ++ b)) rfl ?_ ?_]
  · intro i hi
    obtain ⟨g1, g2, g3⟩ := mp_inv _ ((a ++ b).take i) rfl
    have hgl : ((gget kT (mp ((a ++ b).take i)) (kx (a ++ b)[i])).getD []).length + 1 ≤ 1099511627776 := by
      cases hq : gget kT (mp ((a ++ b).take i)) (kx (a ++ b)[i]) with
      | none => simp
      | some v =>
        have hv : v = grp ((a ++ b).take i) (kx (a ++ b)[i]) := (g2 _ ((gget_mem g1).1 hq)).1
        simp only [Option.getD_some]
        rw [hv]
        have : (grp ((a ++ b).take i) (kx (a ++ b)[i])).length ≤ ((a ++ b).take i).length := List.length_filter_le _ _
        simp only [List.length_take] at this
        omega
    simp only [tier_Merge.l3, List.nil_append, Go.Pg.ilt hi, Go.Pg.nn, Go.Pg.at_ (a ++ b) i hi, cond_true, Bool.and_self, key_eq, Option.bind_some, List.length_singleton]
    have e : ∀ x : L3, (x.1, x.2.1, x.2.2) = x := fun x => rfl
    simp only [e]
    rw [decide_eq_true hgl]
    simp only [cond_true, Nat.beq_refl, Go.Pg.wrS i (by omega), Go.Pg.take_succ (a ++ b) i hi, mp_snoc]
  · simp only [tier_Merge.l3, List.nil_append, Go.Pg.ige, cond_false, List.take_length]
/-- A line of a group. -/
def ent (p : L3 × Ln) : L3 := (p.1.1, bl p.2, p.1.2.2)
instance (n : Int) : Decidable (i64 n) := by unfold i64; infer_instance
theorem ord_eq : ∀ (l : List (L3 × Ln)) (acc : Ln), acc.length + l.length ≤ 1048576 → (∀ p ∈ l, p.2.length ≤ 1048576 ∧ ∀ x ∈ p.2, i64 x.2.1) →
    ordF tier_Merge.l7 l acc = some (if ∀ p ∈ l, i64 (bl p.2) then .inr (acc ++ l.map ent) else .inl ([], false))
  | [], acc, _, _ => by simp [ordF, tier_Merge.l7, optS]
  | p :: l, acc, hl, h => by
    obtain ⟨h1, h2⟩ := h p (by simp)
    have hlen : acc.length + 1 ≤ 1099511627776 := by simp at hl; omega
    simp only [ordF, tier_Merge.l7, optS, blocks_eq p.2 h1 h2, Option.bind_some, FI]
    by_cases hi : -9223372036854775808 ≤ bl p.2 ∧ bl p.2 ≤ 9223372036854775807
    · rw [if_pos hi]
      simp only [Bool.not_true, cond_false, List.length_singleton, decide_eq_true hlen, cond_true]
      rw [ord_eq l _ (by simp at hl ⊢; omega) (fun q hq => h q (by simp [hq]))]
      have hi' : i64 (bl p.2) := hi
      simp only [List.mem_cons, forall_eq_or_imp, hi', true_and, List.append_assoc, List.singleton_append, List.map_cons]
      rfl
    · rw [if_neg hi]
      have hi' : ¬ i64 (bl p.2) := hi
      simp [hi']
def cmpI (a b : Int) : Int := if a < b then -1 else if a > b then 1 else 0
theorem compare_eq (a b : Int) : cmp_Compare_int.f a b = some (cmpI a b) := by
  have nan : ∀ a : Int, cmp_isNaN_int.f a = some false := fun a => by simp [cmp_isNaN_int.f]
  unfold cmp_Compare_int.f cmpI
  simp only [nan, Option.bind_some, cond_false, bt]
  split
  · rfl
  · split <;> rfl
theorem or2_eq (a b : Int) : cmp_Or_int.f [a, b] = some (if a ≠ 0 then a else b) := by
  unfold cmp_Or_int.f
  by_cases ha : a = 0
  · by_cases hb : b = 0
    · subst ha hb
      rw [Go.Pg.loop_up (f := cmp_Or_int.l1 [0, 0]) (s0 := 0) (fun i => (i : Int)) 2 (b := .inr ()) rfl (by decide) (by decide)]
      rfl
    · subst ha
      have hb' : (b != 0) = true := by simp [hb]
      rw [Go.Pg.loop_up (f := cmp_Or_int.l1 [0, b]) (s0 := 0) (fun i => (i : Int)) 1 (b := .inl b) rfl (by
          intro i hi
          rcases i with _ | i
          · rfl
          · omega) (by simp [cmp_Or_int.l1, hb'])]
      simp
  · have ha' : (a != 0) = true := by simp [ha]
    rw [loopO_eq]
    simp [cmp_Or_int.l1, ha', ha]
def ordK (a b : L3) : Int := if cmpI a.1 b.1 ≠ 0 then cmpI a.1 b.1 else cmpI a.2.2 b.2.2
theorem cmpM_eq (a b : L3) : tier_Merge_1.f a b = some (ordK a b) := by
  unfold tier_Merge_1.f ordK
  simp only [compare_eq, Option.bind_some, or2_eq]
theorem ordK_neg (a b : L3) : ordK a b < 0 ↔ ltK a b := by
  unfold ordK ltK cmpI
  repeat' split
  all_goals omega
theorem swoK : SWO (Go.Proofs.ltOf ordK) := by
  refine ⟨fun x => ?_, fun x y z h1 h2 => ?_, fun x y z h1 h2 => ?_⟩
  · simp only [Go.Proofs.ltOf, decide_eq_false_iff_not, ordK_neg]; exact ltK_irrefl _
  · simp only [Go.Proofs.ltOf, decide_eq_true_eq, ordK_neg] at *; exact ltK_trans h1 h2
  · simp only [Go.Proofs.ltOf, decide_eq_false_iff_not, ordK_neg] at *
    unfold ltK at *
    omega
theorem sortK_spec (xs : Ln) (hl : xs.length < 4611686018427387904) : ∃ ys, sortM (T := kT) tier_Merge_1.f xs = some ys ∧ ys.Perm xs ∧ ys.Pairwise (fun a b => ¬ ltK b a) := by
  obtain ⟨ys, h1, h2, h3⟩ := sortM_spec (T := kT) (f := tier_Merge_1.f) (xs := xs) ordK cmpM_eq swoK hl
  refine ⟨ys, h1, h2, h3.imp fun {a b} h => ?_⟩
  simpa only [Go.Proofs.ltOf, decide_eq_false_iff_not, ordK_neg] using h
theorem grp_len (L : Ln) (k : L3) : (grp L k).length ≤ L.length := List.length_filter_le _ _
theorem gp_len {B : Type} (m : Gp kT B) : (m.filterMap id).length ≤ m.length := List.length_filterMap_le _ _
theorem mp_len (L : Ln) : (mp L).length ≤ L.length := by
  have : ∀ (L : Ln) (m : Gp kT Ln), (L.foldl (fun m x => gset kT m (kx x) ((gget kT m (kx x)).getD [] ++ [x])) m).length ≤ m.length + L.length := by
    intro L
    induction L with
    | nil => intro m; simp
    | cons x L ih =>
      intro m
      simp only [List.foldl_cons, List.length_cons]
      have h1 := ih (gset kT m (kx x) ((gget kT m (kx x)).getD [] ++ [x]))
      have h2 : (gset kT m (kx x) ((gget kT m (kx x)).getD [] ++ [x])).length ≤ m.length + 1 := by
        cases hf : gfind kT m (kx x) 0 with
        | none => rw [(gents_new (ka := true) (enc := fun _ => .bool true) (j := 0) _ hf).2]; exact Nat.le_refl _
        | some r => rw [(gents_hit (ka := true) (enc := fun _ => .bool true) (j := 0) (i := 0) (n := r.1) _ rfl (by rw [Nat.zero_add]; exact hf)).2.1]; omega
      omega
  simpa [mp] using this L []
theorem own_merge (a b : Ln) (hl : (a ++ b).length ≤ 1000) (hi : ∀ x ∈ a ++ b, i64 x.2.1) : ∃ o ok, tier_Merge.f a b = some (o, ok) ∧ IsM (a ++ b) o ok := by
  obtain ⟨g1, g2, g3⟩ := mp_inv _ (a ++ b) rfl
  have hll : a.length + b.length ≤ 1000 := by simpa using hl
  have hil : ((mp (a ++ b)).filterMap id).length ≤ 1000 := Nat.le_trans (gp_len _) (Nat.le_trans (mp_len _) hl)
  have hord : ∀ l : List (L3 × Ln), l.Perm ((mp (a ++ b)).filterMap id) → ordF tier_Merge.l7 l [] = some (if ∀ p ∈ l, i64 (bl p.2) then .inr (l.map ent) else .inl ([], false)) := by
    intro l hp
    have := ord_eq l [] (by have := hp.length_eq; simp; omega) (fun p hp' => by
      have := (g2 p (hp.mem_iff.1 hp')).1
      rw [this]
      exact ⟨Nat.le_trans (grp_len _ _) (by omega), fun x hx => hi x (List.mem_filter.1 hx).1⟩)
    simpa using this
  have hf : ∃ r : Ln × Bool, IsM (a ++ b) r.1 r.2 ∧ ∀ l : List (L3 × Ln), l.Perm ((mp (a ++ b)).filterMap id) →
      ((ordF tier_Merge.l7 l []).bind fun b13 => (match b13 with | .inl e11 => some (e11.1, e11.2) | .inr e12 => (sortM (T := kT) tier_Merge_1.f e12).bind fun r14 => some (r14, true))) = some r := by
    by_cases hall : ∀ p ∈ (mp (a ++ b)).filterMap id, i64 (bl p.2)
    · have hsorted : ∀ l : List (L3 × Ln), l.Perm ((mp (a ++ b)).filterMap id) → ∃ ys, sortM (T := kT) tier_Merge_1.f (l.map ent) = some ys ∧ IsM (a ++ b) ys true := by
        intro l hp
        obtain ⟨ys, h1, h2, h3⟩ := sortK_spec (l.map ent) (by have := hp.length_eq; simp; omega)
        refine ⟨ys, h1, ⟨fun _ => ⟨?_, fun x => ?_, fun y hy => ?_⟩, fun h => by cases h⟩⟩
        · have hk : ((l.map ent).map kx).Nodup := by
            have e : (l.map ent).map kx = l.map (·.1) := by
              rw [List.map_map]
              refine List.map_congr_left fun p hp' => ?_
              obtain ⟨_, y, _, hy⟩ := g2 p (hp.mem_iff.1 hp')
              simp only [Function.comp, ent, kx, ← hy]
            rw [e]
            exact (hp.map _).nodup_iff.2 g1
          have hk2 : (ys.map kx).Nodup := (h2.map _).nodup_iff.2 hk
          rw [List.nodup_iff_pairwise_ne, List.pairwise_map] at hk2
          exact List.Pairwise.imp₂ (fun x y h k => ltK_tri h k) h3 hk2
        · rw [h2.mem_iff, List.mem_map]
          constructor
          · rintro ⟨p, hp', rfl⟩
            obtain ⟨q1, y, q2, q3⟩ := g2 p (hp.mem_iff.1 hp')
            have ek : kx (ent p) = p.1 := by simp only [ent, kx, ← q3]
            exact ⟨y, q2, by rw [ek, q3], by rw [ek]; simp only [ent, q1, gs]⟩
          · rintro ⟨y, q1, q2, q3⟩
            obtain ⟨p, hp', hpk⟩ := g3 y q1
            refine ⟨p, hp.mem_iff.2 hp', ?_⟩
            have hq := (g2 p hp').1
            have e1 : p.1 = kx x := hpk.trans q2
            obtain ⟨x1, x2, x3⟩ := x
            simp only [ent, hq, e1]
            simp only [gs] at q3
            rw [q3]
            rfl
        · obtain ⟨p, hp', hpk⟩ := g3 y hy
          have := hall p hp'
          rw [(g2 p hp').1, hpk] at this
          exact this
      obtain ⟨ys, h1, h2⟩ := hsorted _ (.refl _)
      refine ⟨(ys, true), h2, fun l hp => ?_⟩
      rw [hord l hp, if_pos (fun p hp' => hall p (hp.mem_iff.1 hp'))]
      obtain ⟨zs, k1, k2⟩ := hsorted l hp
      simp only [Option.bind_some, k1]
      rw [(k2.uniq (.refl _) h2).1]
    · refine ⟨([], false), ⟨fun h => (by cases h), fun _ => ⟨rfl, ?_⟩⟩, fun l hp => ?_⟩
      · simp only [Classical.not_forall] at hall
        obtain ⟨p, hp', hn⟩ := hall
        obtain ⟨q1, y, q2, q3⟩ := g2 p hp'
        refine ⟨y, q2, ?_⟩
        rw [q3]
        rw [q1] at hn
        exact hn
      · rw [hord l hp, if_neg (fun h => hall fun p hp' => h p (hp.mem_iff.2 hp'))]
        rfl
  obtain ⟨⟨o, ok⟩, hM, hF⟩ := hf
  refine ⟨o, ok, ?_, hM⟩
  unfold tier_Merge.f
  have w1 : IntKind.i64.wrap (0 + (a.length : Int)) = (a.length : Int) := wr _ (by omega) (by omega) |>.trans (by omega)
  have w2 : IntKind.i64.wrap ((a.length : Int) + (b.length : Int)) = ((a.length + b.length : Nat) : Int) := by rw [wr _ (by omega) (by omega)]; omega
  have d1 : decide ((a.length : Int) < 0) = false := by simp
  have d2 : decide (((a.length + b.length : Nat) : Int) < 0) = false := by simp; omega
  have d3 : (decide ((0 : Int) ≤ ((a.length + b.length : Nat) : Int)) && decide (((a.length + b.length : Nat) : Int) ≤ 1099511627776)) = true := by simp; omega
  have d4 : decide (([] : Ln).length + a.length ≤ 1099511627776) = true := by simp; omega
  have d5 : decide ((([] : Ln) ++ a).length + b.length ≤ 1099511627776) = true := by simp; omega
  simp only [Option.bind_some, w1, d1, cond_false, w2, d2, d3, cond_true, d4, d5, own_map a b (by omega), Nat.beq_refl]
  exact anyOrd_of hF
end Go.Proofs.Ytijpigojhildgaa.Pure
