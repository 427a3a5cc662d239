/- Plain facts of maps as entries with places, for the plain laws of every seat. No statement of its own. -/
import Derived.Test.YtijpigojhildgaaPg
namespace Go.Pg
open Go.Vk Go.Am
set_option linter.unusedVariables false
set_option linter.unusedSimpArgs false
section
variable {K V : Ty}
theorem eqT_ne (hk : flatT K = true) {q k : K.Den} (h : q ≠ k) : eqT K q k = false := by
  cases e : eqT K q k with
  | false => rfl
  | true => exact absurd ((eqT_iff hk).1 e) h
theorem eqT_self (hk : flatT K = true) (k : K.Den) : eqT K k k = true := (eqT_iff hk).2 rfl
/-- the entries, the keys -/
def entM (m : Mp K V) : List (K.Den × V.Den) := m.filterMap id
def keysM (m : Mp K V) : List K.Den := (entM m).map (·.1)
@[simp] theorem entM_nil : entM ([] : Mp K V) = [] := rfl
@[simp] theorem entM_none (m : Mp K V) : entM (none :: m) = entM m := rfl
@[simp] theorem entM_some (p : K.Den × V.Den) (m : Mp K V) : entM (some p :: m) = p :: entM m := rfl
@[simp] theorem keysM_nil : keysM ([] : Mp K V) = [] := rfl
@[simp] theorem keysM_none (m : Mp K V) : keysM (none :: m) = keysM m := rfl
@[simp] theorem keysM_some (p : K.Den × V.Den) (m : Mp K V) : keysM (some p :: m) = p.1 :: keysM m := rfl
theorem mlen_ent : ∀ (m : Mp K V), mlen K V m = (entM m).length
  | [] => rfl
  | none :: l => by simp only [mlen, entM_none]; exact mlen_ent l
  | some p :: l => by simp only [mlen, entM_some, List.length_cons, mlen_ent l]
theorem mget_none (hk : flatT K = true) : ∀ {m : Mp K V} {k : K.Den}, k ∉ keysM m → mget K V m k = none
  | [], k, _ => rfl
  | none :: l, k, h => by simp only [mget]; exact mget_none hk h
  | some (k', v') :: l, k, h => by
    simp only [keysM_some, List.mem_cons, not_or] at h
    simp only [mget, eqT_ne hk h.1, cond_false]
    exact mget_none hk h.2
theorem mget_isSome (hk : flatT K = true) : ∀ {m : Mp K V} {k : K.Den}, (mget K V m k).isSome = true ↔ k ∈ keysM m
  | [], k => by simp [mget]
  | none :: l, k => by simp only [mget, keysM_none]; exact mget_isSome hk
  | some (k', v') :: l, k => by
    simp only [mget, keysM_some, List.mem_cons]
    by_cases h : k = k'
    · subst h; rw [eqT_self hk]; simp
    · rw [eqT_ne hk h, cond_false]; simp [h, mget_isSome hk (m := l)]
theorem mget_mem (hk : flatT K = true) : ∀ {m : Mp K V} {k : K.Den} {v : V.Den}, (keysM m).Nodup → (mget K V m k = some v ↔ (k, v) ∈ entM m)
  | [], k, v, _ => by simp [mget]
  | none :: l, k, v, h => by simp only [mget, entM_none]; exact mget_mem hk h
  | some (k', v') :: l, k, v, h => by
    simp only [keysM_some, List.nodup_cons] at h
    simp only [mget, entM_some, List.mem_cons, Prod.mk.injEq]
    by_cases e : k = k'
    · subst e
      rw [eqT_self hk, cond_true, Option.some.injEq]
      constructor
      · rintro rfl; exact .inl ⟨rfl, rfl⟩
      · rintro (⟨_, rfl⟩ | h2)
        · rfl
        · exact absurd (List.mem_map.2 ⟨_, h2, rfl⟩) h.1
    · rw [eqT_ne hk e, cond_false, mget_mem hk h.2]
      constructor
      · exact fun h => .inr h
      · rintro (⟨h, _⟩ | h)
        · exact absurd h e
        · exact h
theorem mset_keys (hk : flatT K = true) : ∀ (m : Mp K V) (k : K.Den) (v : V.Den), (k ∈ keysM m → keysM (mset K V m k v) = keysM m) ∧ (k ∉ keysM m → entM (mset K V m k v) = entM m ++ [(k, v)])
  | [], k, v => ⟨fun h => by simp at h, fun _ => rfl⟩
  | none :: l, k, v => by simp only [mset, keysM_none, entM_none]; exact mset_keys hk l k v
  | some (k', v') :: l, k, v => by
    simp only [mset]
    by_cases e : k = k'
    · subst e
      rw [eqT_self hk, cond_true]
      exact ⟨fun _ => rfl, fun h => absurd (by simp) h⟩
    · rw [eqT_ne hk e, cond_false]
      obtain ⟨h1, h2⟩ := mset_keys hk l k v
      simp only [keysM_some, entM_some, List.mem_cons, e, false_or]
      exact ⟨fun h => by rw [h1 h], fun h => by rw [h2 h]; rfl⟩
theorem mset_nodup (hk : flatT K = true) {m : Mp K V} (h : (keysM m).Nodup) (k : K.Den) (v : V.Den) : (keysM (mset K V m k v)).Nodup := by
  obtain ⟨h1, h2⟩ := mset_keys hk m k v
  by_cases hm : k ∈ keysM m
  · rw [h1 hm]; exact h
  · show ((entM (mset K V m k v)).map (·.1)).Nodup
    rw [h2 hm, List.map_append, List.nodup_append]
    refine ⟨h, by simp, fun a ha b hb => ?_⟩
    simp only [List.map_cons, List.map_nil, List.mem_singleton] at hb
    subst hb
    exact fun e => hm (e ▸ ha)
theorem mget_ext (hk : flatT K = true) {m m' : Mp K V} (h : (keysM m).Nodup) (h' : (keysM m').Nodup) (e : ∀ k, mget K V m k = mget K V m' k) : (entM m).Perm (entM m') := by
  have nd : ∀ {q : Mp K V}, (keysM q).Nodup → (entM q).Nodup := fun {q} h => (List.pairwise_map.1 (show ((entM q).map (·.1)).Pairwise (· ≠ ·) from h)).imp fun {a b} e f => e (congrArg (·.1) f)
  refine (List.perm_ext_iff_of_nodup (nd h) (nd h')).2 fun p => ?_
  rw [← mget_mem hk h (k := p.1) (v := p.2), ← mget_mem hk h', e]
theorem mget_perm (hk : flatT K = true) {m m' : Mp K V} (h : (keysM m).Nodup) (p : (entM m).Perm (entM m')) (k : K.Den) : mget K V m k = mget K V m' k := by
  have h' : (keysM m').Nodup := (p.map (fun x : K.Den × V.Den => x.1)).nodup h
  cases hg : mget K V m' k with
  | some v => rw [mget_mem hk h, p.mem_iff, ← mget_mem hk h']; exact hg
  | none =>
    cases hq : mget K V m k with
    | none => rfl
    | some v =>
      rw [mget_mem hk h, p.mem_iff, ← mget_mem hk h', hg] at hq
      cases hq
theorem mget_del (hk : flatT K = true) : ∀ {m : Mp K V} (k q : K.Den), (keysM m).Nodup → mget K V (mdel K V m k) q = bif eqT K q k then none else mget K V m q
  | [], k, q, _ => by cases eqT K q k <;> rfl
  | none :: l, k, q, h => by simp only [mdel, mget]; exact mget_del hk k q h
  | some (k', v') :: l, k, q, h => by
    simp only [keysM_some, List.nodup_cons] at h
    simp only [mdel]
    by_cases e : k = k'
    · subst e
      rw [eqT_self hk, cond_true]
      simp only [mget]
      by_cases e2 : q = k
      · subst e2; rw [eqT_self hk, cond_true]; exact mget_none hk h.1
      · rw [eqT_ne hk e2]; rfl
    · rw [eqT_ne hk e, cond_false]
      simp only [mget]
      rw [mget_del hk k q h.2]
      by_cases e2 : q = k'
      · subst e2
        rw [eqT_self hk, eqT_ne hk (fun h => e h.symm)]; rfl
      · rw [eqT_ne hk e2]; rfl
theorem mdel_sub (hk : flatT K = true) : ∀ (m : Mp K V) (k : K.Den), (entM (mdel K V m k)).Sublist (entM m)
  | [], k => .slnil
  | none :: l, k => by simp only [mdel, entM_none]; exact mdel_sub hk l k
  | some (k', v') :: l, k => by
    simp only [mdel]
    cases eqT K k k' with
    | true => exact List.sublist_cons_self _ _
    | false => exact (mdel_sub hk l k).cons_cons _
theorem mdel_nodup (hk : flatT K = true) {m : Mp K V} (h : (keysM m).Nodup) (k : K.Den) : (keysM (mdel K V m k)).Nodup := h.sublist ((mdel_sub hk m k).map _)
theorem mlen_get (hk : flatT K = true) {m m' : Mp K V} (h : (keysM m).Nodup) (h' : (keysM m').Nodup) (e : ∀ k, mget K V m k = mget K V m' k) : mlen K V m = mlen K V m' := by
  rw [mlen_ent, mlen_ent]; exact (mget_ext hk h h' e).length_eq
end
end Go.Pg
