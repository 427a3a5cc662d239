/- Plain laws: loops over lists, machine words, bounds. No statement of its own. -/
import Derived.Test.YtfcgafnmlkiimaaVkB
import Derived.IntWalk
set_option linter.unusedVariables false
set_option linter.unusedSimpArgs false
namespace Go.Pg
open Go.Vk Go.Am
set_option linter.unusedVariables false
set_option linter.unusedSimpArgs false

theorem wr (n : Int) (h : -9223372036854775808 ≤ n) (h' : n ≤ 9223372036854775807) : IntKind.i64.wrap n = n := IntWalk.i64_in n ⟨h, h'⟩
theorem wrS (i : Nat) (h : i < 9223372036854775807) : IntKind.i64.wrap ((i : Int) + 1) = ((i + 1 : Nat) : Int) := by rw [wr _ (by omega) (by omega)]; rfl
theorem wrN (i : Nat) (h : i ≤ 9223372036854775807) : IntKind.i64.wrap (i : Int) = (i : Int) := wr _ (by omega) (by omega)
theorem neg_neg (x : Int) (h : -9223372036854775808 ≤ x) (h' : x ≤ 9223372036854775807) : IntKind.i64.wrap (0 - IntKind.i64.wrap (0 - x)) = x := by
  rw [IntKind.wrap_i64, IntKind.wrap_i64]; omega
theorem wrap_lo (x : Int) : -9223372036854775808 ≤ IntKind.i64.wrap x := by rw [IntKind.wrap_i64]; omega
theorem wrap_hi (x : Int) : IntKind.i64.wrap x ≤ 9223372036854775807 := by rw [IntKind.wrap_i64]; omega
theorem wf_i64 {x : Int} (h : (Lit.int .i64 x).wf = true) : -9223372036854775808 ≤ x ∧ x ≤ 9223372036854775807 := by
  have h1 : IntKind.i64.min = -9223372036854775808 := by decide
  have h2 : IntKind.i64.max = 9223372036854775807 := by decide
  rw [← h1, ← h2]
  simpa [Lit.wf] using h
theorem ilt {i n : Nat} (h : i < n) : decide ((i : Int) < (n : Int)) = true := by simp; omega
theorem ige (n : Nat) : decide ((n : Int) < (n : Int)) = false := by simp
theorem nn (i : Nat) : decide (0 ≤ (i : Int)) = true := by simp
theorem at_ {α : Type} (l : List α) (i : Nat) (h : i < l.length) (d : α) : l.getD ((i : Int)).toNat d = l[i] := by simp [h]
theorem at_n {α : Type} (l : List α) (i : Nat) (h : i < l.length) (d : α) : l.getD i d = l[i] := by simp [h]
theorem bt {α : Type} (c : Prop) [Decidable c] (x y : α) : (bif decide c then x else y) = if c then x else y := by by_cases h : c <;> simp [h]
theorem orB (c x : Bool) : (bif !c then some x else some true) = some (c || x) := by cases c <;> rfl
theorem andB (c x : Bool) : (bif c then some x else some false) = some (c && x) := by cases c <;> rfl
theorem take_succ {α : Type} (l : List α) (i : Nat) (h : i < l.length) : l.take (i + 1) = l.take i ++ [l[i]] := by simp [h]

/-- A loop that goes on n times and then ends. -/
theorem loop_upto {S B : Type} {f : S → Option (S ⊕ B)} (st : Nat → S) (n : Nat) {b : B} (hs : ∀ i, i < n → f (st i) = some (.inl (st (i + 1)))) (hf : f (st n) = some (.inr b)) : loopO f (st 0) = some b := by
  have : ∀ k, k ≤ n → loopO f (st (n - k)) = some b := by
    intro k
    induction k with
    | zero => intro _; rw [loopO_eq]; simp [hf]
    | succ k ih =>
      intro hk
      rw [loopO_eq, hs (n - (k + 1)) (by omega)]
      simp only [Option.bind_some]
      rw [show n - (k + 1) + 1 = n - k by omega]
      exact ih (by omega)
  have h := this n (Nat.le_refl _)
  rwa [Nat.sub_self] at h

theorem loop_up {S B : Type} {f : S → Option (S ⊕ B)} {s0 : S} (st : Nat → S) (n : Nat) {b : B} (h0 : st 0 = s0) (hs : ∀ i, i < n → f (st i) = some (.inl (st (i + 1)))) (hf : f (st n) = some (.inr b)) : loopO f s0 = some b := by
  rw [← h0]; exact loop_upto st n hs hf

/-- The first place of a list at which something holds, if there is one. -/
def firstAt {α : Type} (p : α → Bool) : List α → Option Nat
  | [] => none
  | x :: l => if p x then some 0 else (firstAt p l).map (· + 1)
theorem firstAt_none {α : Type} {p : α → Bool} : ∀ {l : List α}, firstAt p l = none → ∀ x ∈ l, p x = false
  | [], _, x, hx => by cases hx
  | y :: l, h, x, hx => by
    unfold firstAt at h
    split at h
    · cases h
    · rename_i hp
      rcases List.mem_cons.1 hx with rfl | hx
      · simpa using hp
      · exact firstAt_none (by simpa using h) x hx
theorem firstAt_some {α : Type} {p : α → Bool} : ∀ {l : List α} {k : Nat}, firstAt p l = some k → ∃ h : k < l.length, p l[k] = true ∧ ∀ j (hj : j < k), p (l[j]'(by omega)) = false
  | [], k, h => by cases h
  | y :: l, k, h => by
    unfold firstAt at h
    split at h
    · rename_i hp
      obtain rfl := Option.some.inj h
      exact ⟨by simp, by simpa using hp, fun j hj => by omega⟩
    · rename_i hp
      obtain ⟨k', h1, rfl⟩ := Option.map_eq_some_iff.1 h
      obtain ⟨h2, h3, h4⟩ := firstAt_some h1
      refine ⟨by simp; omega, by simpa using h3, fun j hj => ?_⟩
      cases j with
      | zero => simpa using hp
      | succ j => simpa using h4 j (by omega)
/-- 'l[:min(len(l), n)]'. -/
theorem cut_ok {α : Type} (l : List α) (n : Nat) : (decide ((0 : Int) ≤ 0) && (decide ((0 : Int) ≤ (if (n : Int) < (l.length : Int) then (n : Int) else (l.length : Int))) && decide ((if (n : Int) < (l.length : Int) then (n : Int) else (l.length : Int)) ≤ (l.length : Int)))) = true := by
  simp only [Bool.and_eq_true, decide_eq_true_eq]
  split <;> omega
theorem cut_eq {α : Type} (l : List α) (n : Nat) : (l.take (if (n : Int) < (l.length : Int) then (n : Int) else (l.length : Int)).toNat).drop (0 : Int).toNat = l.take n := by
  split
  · simp
  · simp only [Int.toNat_natCast, Int.toNat_zero, List.drop_zero]
    rw [List.take_of_length_le (by omega), List.take_of_length_le (by omega)]

/-! ### maps -/
section
variable {K V : Ty}
theorem get_set (hk : flatT K = true) : ∀ (xs : Mp K V) (k : K.Den) (v : V.Den) (q : K.Den), mget K V (mset K V xs k v) q = bif eqT K q k then some v else mget K V xs q
  | [], k, v, q => by simp only [mset, mget]
  | none :: l, k, v, q => by simp only [mset, mget, get_set hk l k v q]
  | some (k', v') :: l, k, v, q => by
    simp only [mset]
    cases he : eqT K k k' with
    | true =>
      obtain rfl := (eqT_iff hk).1 he
      simp only [cond_true, mget]
      cases eqT K q k <;> rfl
    | false =>
      simp only [cond_false, mget, get_set hk l k v q]
      cases hq : eqT K q k' with
      | false => rfl
      | true =>
        obtain rfl := (eqT_iff hk).1 hq
        cases hqk : eqT K q k with
        | false => rfl
        | true =>
          obtain rfl := (eqT_iff hk).1 hqk
          rw [hq] at he; cases he
theorem has_set : ∀ (xs : Mp K V) (k : K.Den) (v : V.Den), flatT K = true → mhas K V (mset K V xs k v) (mpos K V xs k) = true
  | [], k, v, hk => rfl
  | none :: l, k, v, hk => by simp only [mset, mpos, mhas]; exact has_set l k v hk
  | some (k', v') :: l, k, v, hk => by
    simp only [mset, mpos]
    cases he : eqT K k k' with
    | true => rfl
    | false => simp only [cond_false, mhas]; exact has_set l k v hk
theorem put_set : ∀ (xs : Mp K V) (k : K.Den) (v u : V.Den), flatT K = true → mput K V (mset K V xs k v) (mpos K V xs k) u = mset K V xs k u
  | [], k, v, u, hk => rfl
  | none :: l, k, v, u, hk => by simp only [mset, mpos, mput, put_set l k v u hk]
  | some (k', v') :: l, k, v, u, hk => by
    simp only [mset, mpos]
    cases he : eqT K k k' with
    | true => simp only [cond_true, mput]
    | false => simp only [cond_false, mput, put_set l k v u hk]
end
end Go.Pg

/- Plain facts of maps as entries with places, for the plain laws of every seat. No statement of its own. -/
namespace Go.Pg
open Go.Vk Go.Am
set_option linter.unusedVariables false
set_option linter.unusedSimpArgs false
section
variable {K V : Ty}
theorem eqT_ne (hk : flatT K = true) {q k : K.Den} (h : q ≠ k) : eqT K q k = false := by
  cases e : eqT K q k with
  | false => rfl
  | true => exact absurd ((eqT_iff hk).1 e) h
theorem eqT_self (hk : flatT K = true) (k : K.Den) : eqT K k k = true := (eqT_iff hk).2 rfl
/-- the entries, the keys -/
def entM (m : Mp K V) : List (K.Den × V.Den) := m.filterMap id
def keysM (m : Mp K V) : List K.Den := (entM m).map (·.1)
@[simp] theorem entM_nil : entM ([] : Mp K V) = [] := rfl
@[simp] theorem entM_none (m : Mp K V) : entM (none :: m) = entM m := rfl
@[simp] theorem entM_some (p : K.Den × V.Den) (m : Mp K V) : entM (some p :: m) = p :: entM m := rfl
@[simp] theorem keysM_nil : keysM ([] : Mp K V) = [] := rfl
@[simp] theorem keysM_none (m : Mp K V) : keysM (none :: m) = keysM m := rfl
@[simp] theorem keysM_some (p : K.Den × V.Den) (m : Mp K V) : keysM (some p :: m) = p.1 :: keysM m := rfl
theorem mlen_ent : ∀ (m : Mp K V), mlen K V m = (entM m).length
  | [] => rfl
  | none :: l => by simp only [mlen, entM_none]; exact mlen_ent l
  | some p :: l => by simp only [mlen, entM_some, List.length_cons, mlen_ent l]
theorem mget_none (hk : flatT K = true) : ∀ {m : Mp K V} {k : K.Den}, k ∉ keysM m → mget K V m k = none
  | [], k, _ => rfl
  | none :: l, k, h => by simp only [mget]; exact mget_none hk h
  | some (k', v') :: l, k, h => by
    simp only [keysM_some, List.mem_cons, not_or] at h
    simp only [mget, eqT_ne hk h.1, cond_false]
    exact mget_none hk h.2
theorem mget_isSome (hk : flatT K = true) : ∀ {m : Mp K V} {k : K.Den}, (mget K V m k).isSome = true ↔ k ∈ keysM m
  | [], k => by simp [mget]
  | none :: l, k => by simp only [mget, keysM_none]; exact mget_isSome hk
  | some (k', v') :: l, k => by
    simp only [mget, keysM_some, List.mem_cons]
    by_cases h : k = k'
    · subst h; rw [eqT_self hk]; simp
    · rw [eqT_ne hk h, cond_false]; simp [h, mget_isSome hk (m := l)]
theorem mget_mem (hk : flatT K = true) : ∀ {m : Mp K V} {k : K.Den} {v : V.Den}, (keysM m).Nodup → (mget K V m k = some v ↔ (k, v) ∈ entM m)
  | [], k, v, _ => by simp [mget]
  | none :: l, k, v, h => by simp only [mget, entM_none]; exact mget_mem hk h
  | some (k', v') :: l, k, v, h => by
    simp only [keysM_some, List.nodup_cons] at h
    simp only [mget, entM_some, List.mem_cons, Prod.mk.injEq]
    by_cases e : k = k'
    · subst e
      rw [eqT_self hk, cond_true, Option.some.injEq]
      constructor
      · rintro rfl; exact .inl ⟨rfl, rfl⟩
      · rintro (⟨_, rfl⟩ | h2)
        · rfl
        · exact absurd (List.mem_map.2 ⟨_, h2, rfl⟩) h.1
    · rw [eqT_ne hk e, cond_false, mget_mem hk h.2]
      constructor
      · exact fun h => .inr h
      · rintro (⟨h, _⟩ | h)
        · exact absurd h e
        · exact h
theorem mset_keys (hk : flatT K = true) : ∀ (m : Mp K V) (k : K.Den) (v : V.Den), (k ∈ keysM m → keysM (mset K V m k v) = keysM m) ∧ (k ∉ keysM m → entM (mset K V m k v) = entM m ++ [(k, v)])
  | [], k, v => ⟨fun h => by simp at h, fun _ => rfl⟩
  | none :: l, k, v => by simp only [mset, keysM_none, entM_none]; exact mset_keys hk l k v
  | some (k', v') :: l, k, v => by
    simp only [mset]
    by_cases e : k = k'
    · subst e
      rw [eqT_self hk, cond_true]
      exact ⟨fun _ => rfl, fun h => absurd (by simp) h⟩
    · rw [eqT_ne hk e, cond_false]
      obtain ⟨h1, h2⟩ := mset_keys hk l k v
      simp only [keysM_some, entM_some, List.mem_cons, e, false_or]
      exact ⟨fun h => by rw [h1 h], fun h => by rw [h2 h]; rfl⟩
theorem mset_nodup (hk : flatT K = true) {m : Mp K V} (h : (keysM m).Nodup) (k : K.Den) (v : V.Den) : (keysM (mset K V m k v)).Nodup := by
  obtain ⟨h1, h2⟩ := mset_keys hk m k v
  by_cases hm : k ∈ keysM m
  · rw [h1 hm]; exact h
  · show ((entM (mset K V m k v)).map (·.1)).Nodup
    rw [h2 hm, List.map_append, List.nodup_append]
    refine ⟨h, by simp, fun a ha b hb => ?_⟩
    simp only [List.map_cons, List.map_nil, List.mem_singleton] at hb
    subst hb
    exact fun e => hm (e ▸ ha)
theorem mget_ext (hk : flatT K = true) {m m' : Mp K V} (h : (keysM m).Nodup) (h' : (keysM m').Nodup) (e : ∀ k, mget K V m k = mget K V m' k) : (entM m).Perm (entM m') := by
  have nd : ∀ {q : Mp K V}, (keysM q).Nodup → (entM q).Nodup := fun {q} h => (List.pairwise_map.1 (show ((entM q).map (·.1)).Pairwise (· ≠ ·) from h)).imp fun {a b} e f => e (congrArg (·.1) f)
  refine (List.perm_ext_iff_of_nodup (nd h) (nd h')).2 fun p => ?_
  rw [← mget_mem hk h (k := p.1) (v := p.2), ← mget_mem hk h', e]
theorem mget_perm (hk : flatT K = true) {m m' : Mp K V} (h : (keysM m).Nodup) (p : (entM m).Perm (entM m')) (k : K.Den) : mget K V m k = mget K V m' k := by
  have h' : (keysM m').Nodup := (p.map (fun x : K.Den × V.Den => x.1)).nodup h
  cases hg : mget K V m' k with
  | some v => rw [mget_mem hk h, p.mem_iff, ← mget_mem hk h']; exact hg
  | none =>
    cases hq : mget K V m k with
    | none => rfl
    | some v =>
      rw [mget_mem hk h, p.mem_iff, ← mget_mem hk h', hg] at hq
      cases hq
theorem mget_del (hk : flatT K = true) : ∀ {m : Mp K V} (k q : K.Den), (keysM m).Nodup → mget K V (mdel K V m k) q = bif eqT K q k then none else mget K V m q
  | [], k, q, _ => by cases eqT K q k <;> rfl
  | none :: l, k, q, h => by simp only [mdel, mget]; exact mget_del hk k q h
  | some (k', v') :: l, k, q, h => by
    simp only [keysM_some, List.nodup_cons] at h
    simp only [mdel]
    by_cases e : k = k'
    · subst e
      rw [eqT_self hk, cond_true]
      simp only [mget]
      by_cases e2 : q = k
      · subst e2; rw [eqT_self hk, cond_true]; exact mget_none hk h.1
      · rw [eqT_ne hk e2]; rfl
    · rw [eqT_ne hk e, cond_false]
      simp only [mget]
      rw [mget_del hk k q h.2]
      by_cases e2 : q = k'
      · subst e2
        rw [eqT_self hk, eqT_ne hk (fun h => e h.symm)]; rfl
      · rw [eqT_ne hk e2]; rfl
theorem mdel_sub (hk : flatT K = true) : ∀ (m : Mp K V) (k : K.Den), (entM (mdel K V m k)).Sublist (entM m)
  | [], k => .slnil
  | none :: l, k => by simp only [mdel, entM_none]; exact mdel_sub hk l k
  | some (k', v') :: l, k => by
    simp only [mdel]
    cases eqT K k k' with
    | true => exact List.sublist_cons_self _ _
    | false => exact (mdel_sub hk l k).cons_cons _
theorem mdel_nodup (hk : flatT K = true) {m : Mp K V} (h : (keysM m).Nodup) (k : K.Den) : (keysM (mdel K V m k)).Nodup := h.sublist ((mdel_sub hk m k).map _)
theorem mlen_get (hk : flatT K = true) {m m' : Mp K V} (h : (keysM m).Nodup) (h' : (keysM m').Nodup) (e : ∀ k, mget K V m k = mget K V m' k) : mlen K V m = mlen K V m' := by
  rw [mlen_ent, mlen_ent]; exact (mget_ext hk h h' e).length_eq
end
end Go.Pg
