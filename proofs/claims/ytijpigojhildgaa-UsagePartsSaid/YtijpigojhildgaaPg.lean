/- Plain laws: loops over lists, machine words, bounds. No statement of its own. -/
import Derived.Test.YtijpigojhildgaaVkB
import Derived.IntWalk
namespace Go.Pg
open Go.Vk Go.Am
set_option linter.unusedVariables false
set_option linter.unusedSimpArgs false

theorem wr (n : Int) (h : -9223372036854775808 ≤ n) (h' : n ≤ 9223372036854775807) : IntKind.i64.wrap n = n := IntWalk.i64_in n ⟨h, h'⟩
theorem wrS (i : Nat) (h : i < 9223372036854775807) : IntKind.i64.wrap ((i : Int) + 1) = ((i + 1 : Nat) : Int) := by rw [wr _ (by omega) (by omega)]; rfl
theorem wrN (i : Nat) (h : i ≤ 9223372036854775807) : IntKind.i64.wrap (i : Int) = (i : Int) := wr _ (by omega) (by omega)
theorem neg_neg (x : Int) (h : -9223372036854775808 ≤ x) (h' : x ≤ 9223372036854775807) : IntKind.i64.wrap (0 - IntKind.i64.wrap (0 - x)) = x := by
  rw [IntKind.wrap_i64, IntKind.wrap_i64]; omega
theorem wrap_lo (x : Int) : -9223372036854775808 ≤ IntKind.i64.wrap x := by rw [IntKind.wrap_i64]; omega
theorem wrap_hi (x : Int) : IntKind.i64.wrap x ≤ 9223372036854775807 := by rw [IntKind.wrap_i64]; omega
theorem wf_i64 {x : Int} (h : (Lit.int .i64 x).wf = true) : -9223372036854775808 ≤ x ∧ x ≤ 9223372036854775807 := by
  have h1 : IntKind.i64.min = -9223372036854775808 := by decide
  have h2 : IntKind.i64.max = 9223372036854775807 := by decide
  rw [← h1, ← h2]
  simpa [Lit.wf] using h
theorem ilt {i n : Nat} (h : i < n) : decide ((i : Int) < (n : Int)) = true := by simp; omega
theorem ige (n : Nat) : decide ((n : Int) < (n : Int)) = false := by simp
theorem nn (i : Nat) : decide (0 ≤ (i : Int)) = true := by simp
theorem at_ {α : Type} (l : List α) (i : Nat) (h : i < l.length) (d : α) : l.getD ((i : Int)).toNat d = l[i] := by simp [h]
theorem at_n {α : Type} (l : List α) (i : Nat) (h : i < l.length) (d : α) : l.getD i d = l[i] := by simp [h]
theorem bt {α : Type} (c : Prop) [Decidable c] (x y : α) : (bif decide c then x else y) = if c then x else y := by by_cases h : c <;> simp [h]
theorem orB (c x : Bool) : (bif !c then some x else some true) = some (c || x) := by cases c <;> rfl
theorem andB (c x : Bool) : (bif c then some x else some false) = some (c && x) := by cases c <;> rfl
theorem take_succ {α : Type} (l : List α) (i : Nat) (h : i < l.length) : l.take (i + 1) = l.take i ++ [l[i]] := by simp [h]

/-- A loop that goes on n times and then ends. -/
theorem loop_upto {S B : Type} {f : S → Option (S ⊕ B)} (st : Nat → S) (n : Nat) {b : B} (hs : ∀ i, i < n → f (st i) = some (.inl (st (i + 1)))) (hf : f (st n) = some (.inr b)) : loopO f (st 0) = some b := by
  have : ∀ k, k ≤ n → loopO f (st (n - k)) = some b := by
    intro k
    induction k with
    | zero => intro _; rw [loopO_eq]; simp [hf]
    | succ k ih =>
      intro hk
      rw [loopO_eq, hs (n - (k + 1)) (by omega)]
      simp only [Option.bind_some]
      rw [show n - (k + 1) + 1 = n - k by omega]
      exact ih (by omega)
  have h := this n (Nat.le_refl _)
  rwa [Nat.sub_self] at h

theorem loop_up {S B : Type} {f : S → Option (S ⊕ B)} {s0 : S} (st : Nat → S) (n : Nat) {b : B} (h0 : st 0 = s0) (hs : ∀ i, i < n → f (st i) = some (.inl (st (i + 1)))) (hf : f (st n) = some (.inr b)) : loopO f s0 = some b := by
  rw [← h0]; exact loop_upto st n hs hf

/-- The first place of a list at which something holds, if there is one. -/
def firstAt {α : Type} (p : α → Bool) : List α → Option Nat
  | [] => none
  | x :: l => if p x then some 0 else (firstAt p l).map (· + 1)
theorem firstAt_none {α : Type} {p : α → Bool} : ∀ {l : List α}, firstAt p l = none → ∀ x ∈ l, p x = false
  | [], _, x, hx => by cases hx
  | y :: l, h, x, hx => by
    unfold firstAt at h
    split at h
    · cases h
    · rename_i hp
      rcases List.mem_cons.1 hx with rfl | hx
      · simpa using hp
      · exact firstAt_none (by simpa using h) x hx
theorem firstAt_some {α : Type} {p : α → Bool} : ∀ {l : List α} {k : Nat}, firstAt p l = some k → ∃ h : k < l.length, p l[k] = true ∧ ∀ j (hj : j < k), p (l[j]'(by omega)) = false
  | [], k, h => by cases h
  | y :: l, k, h => by
    unfold firstAt at h
    split at h
    · rename_i hp
      obtain rfl := Option.some.inj h
      exact ⟨by simp, by simpa using hp, fun j hj => by omega⟩
    · rename_i hp
      obtain ⟨k', h1, rfl⟩ := Option.map_eq_some_iff.1 h
      obtain ⟨h2, h3, h4⟩ := firstAt_some h1
      refine ⟨by simp; omega, by simpa using h3, fun j hj => ?_⟩
      cases j with
      | zero => simpa using hp
      | succ j => simpa using h4 j (by omega)
/-- 'l[:min(len(l), n)]'. -/
theorem cut_ok {α : Type} (l : List α) (n : Nat) : (decide ((0 : Int) ≤ 0) && (decide ((0 : Int) ≤ (if (n : Int) < (l.length : Int) then (n : Int) else (l.length : Int))) && decide ((if (n : Int) < (l.length : Int) then (n : Int) else (l.length : Int)) ≤ (l.length : Int)))) = true := by
  simp only [Bool.and_eq_true, decide_eq_true_eq]
  split <;> omega
theorem cut_eq {α : Type} (l : List α) (n : Nat) : (l.take (if (n : Int) < (l.length : Int) then (n : Int) else (l.length : Int)).toNat).drop (0 : Int).toNat = l.take n := by
  split
  · simp
  · simp only [Int.toNat_natCast, Int.toNat_zero, List.drop_zero]
    rw [List.take_of_length_le (by omega), List.take_of_length_le (by omega)]

/-! ### maps -/
section
variable {K V : Ty}
theorem get_set (hk : flatT K = true) : ∀ (xs : Mp K V) (k : K.Den) (v : V.Den) (q : K.Den), mget K V (mset K V xs k v) q = bif eqT K q k then some v else mget K V xs q
  | [], k, v, q => by simp only [mset, mget]
  | none :: l, k, v, q => by simp only [mset, mget, get_set hk l k v q]
  | some (k', v') :: l, k, v, q => by
    simp only [mset]
    cases he : eqT K k k' with
    | true =>
      obtain rfl := (eqT_iff hk).1 he
      simp only [cond_true, mget]
      cases eqT K q k <;> rfl
    | false =>
      simp only [cond_false, mget, get_set hk l k v q]
      cases hq : eqT K q k' with
      | false => rfl
      | true =>
        obtain rfl := (eqT_iff hk).1 hq
        cases hqk : eqT K q k with
        | false => rfl
        | true =>
          obtain rfl := (eqT_iff hk).1 hqk
          rw [hq] at he; cases he
theorem has_set : ∀ (xs : Mp K V) (k : K.Den) (v : V.Den), flatT K = true → mhas K V (mset K V xs k v) (mpos K V xs k) = true
  | [], k, v, hk => rfl
  | none :: l, k, v, hk => by simp only [mset, mpos, mhas]; exact has_set l k v hk
  | some (k', v') :: l, k, v, hk => by
    simp only [mset, mpos]
    cases he : eqT K k k' with
    | true => rfl
    | false => simp only [cond_false, mhas]; exact has_set l k v hk
theorem put_set : ∀ (xs : Mp K V) (k : K.Den) (v u : V.Den), flatT K = true → mput K V (mset K V xs k v) (mpos K V xs k) u = mset K V xs k u
  | [], k, v, u, hk => rfl
  | none :: l, k, v, u, hk => by simp only [mset, mpos, mput, put_set l k v u hk]
  | some (k', v') :: l, k, v, u, hk => by
    simp only [mset, mpos]
    cases he : eqT K k k' with
    | true => simp only [cond_true, mput]
    | false => simp only [cond_false, mput, put_set l k v u hk]
end
end Go.Pg


