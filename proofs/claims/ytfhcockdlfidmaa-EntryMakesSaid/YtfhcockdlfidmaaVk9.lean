/- Maps: entries as a list with places, and what the machine does on them. No statement of its own. -/
import Derived.Test.YtfhcockdlfidmaaVk7
import Derived.MapKept
namespace Go.Am
open Go.Vk Go.RowKit
set_option linter.unusedVariables false
set_option linter.unusedSimpArgs false

/-- a type that holds no slice -/
def flatT : Ty → Bool
  | .int _ => true
  | .bool => true
  | .str => true
  | .pair a b => flatT a && flatT b
  | _ => false
def encF : (T : Ty) → T.Den → List Value
  | .int k, x => [.int k x]
  | .bool, x => [.bool x]
  | .str, x => [.string x]
  | .pair a b, x => encF a x.1 ++ encF b x.2
  | _, _ => []
theorem encF_len : ∀ (T : Ty) (x : T.Den), flatT T = true → (encF T x).length = T.sz
  | .int k, x, _ => rfl
  | .bool, x, _ => rfl
  | .str, x, _ => rfl
  | .pair a b, x, h => by
    simp only [flatT, Bool.and_eq_true] at h
    simp only [encF, List.length_append, Ty.sz, encF_len a x.1 h.1, encF_len b x.2 h.2]
  | .slice _, _, h => by simp [flatT] at h
  | .arr _ _, _, h => by simp [flatT] at h
theorem encF_one : ∀ (T : Ty) (x : T.Den), ∀ v ∈ encF T x, v.oneCell' = true
  | .int k, x, v, h => by simp only [encF, List.mem_singleton] at h; subst h; rfl
  | .bool, x, v, h => by simp only [encF, List.mem_singleton] at h; subst h; rfl
  | .str, x, v, h => by simp only [encF, List.mem_singleton] at h; subst h; rfl
  | .pair a b, x, v, h => by
    simp only [encF, List.mem_append] at h
    rcases h with h | h
    · exact encF_one a x.1 v h
    · exact encF_one b x.2 v h
  | .slice _, _, _, h => by simp [encF] at h
  | .arr _ _, _, _, h => by simp [encF] at h
theorem rep_flat {σ : Gh} {w : World} : ∀ (T : Ty) (x : T.Den) (cs : List Value), flatT T = true → (repTy T σ w x cs ↔ cs = encF T x)
  | .int k, x, cs, _ => by simp [repTy, encF]
  | .bool, x, cs, _ => by simp [repTy, encF]
  | .str, x, cs, _ => by simp [repTy, encF]
  | .pair a b, x, cs, h => by
    simp only [flatT, Bool.and_eq_true] at h
    simp only [repTy, encF]
    constructor
    · rintro ⟨c1, c2, rfl, h1, h2⟩
      rw [(rep_flat a x.1 c1 h.1).1 h1, (rep_flat b x.2 c2 h.2).1 h2]
    · rintro rfl
      exact ⟨_, _, rfl, (rep_flat a x.1 _ h.1).2 rfl, (rep_flat b x.2 _ h.2).2 rfl⟩
  | .slice _, _, _, h => by simp [flatT] at h
  | .arr _ _, _, _, h => by simp [flatT] at h

def valF (ag : Bool) (T : Ty) (x : T.Den) : Value :=
  match ag with
  | true => .agg (encF T x).toArray
  | false => (encF T x).headD undef
def eqT : (T : Ty) → T.Den → T.Den → Bool
  | .int _, x, y => x == y
  | .bool, x, y => x == y
  | .str, x, y => x == y
  | .pair a b, x, y => eqT a x.1 y.1 && eqT b x.2 y.2
  | _, _, _ => false
theorem eqT_iff : ∀ {T : Ty} {x y : T.Den}, flatT T = true → (eqT T x y = true ↔ x = y)
  | .int _, x, y, _ => by simp only [eqT]; exact beq_iff_eq
  | .bool, x, y, _ => by simp only [eqT]; exact beq_iff_eq
  | .str, x, y, _ => by simp only [eqT]; exact Go.MapKept.bytes_beq x y
  | .pair a b, x, y, h => by
    simp only [flatT, Bool.and_eq_true] at h
    simp only [eqT, Bool.and_eq_true, eqT_iff h.1, eqT_iff h.2]
    exact ⟨fun ⟨e1, e2⟩ => Prod.ext e1 e2, fun e => by rw [e]; exact ⟨rfl, rfl⟩⟩
  | .slice _, _, _, h => by simp [flatT] at h
  | .arr _ _, _, _, h => by simp [flatT] at h

/-- A map's places: what was deleted leaves its place empty. -/
abbrev Mp (K V : Ty) := List (Option (K.Den × V.Den))
def mget (K V : Ty) : Mp K V → K.Den → Option V.Den
  | [], _ => none
  | none :: l, k => mget K V l k
  | some (k', v) :: l, k => bif eqT K k k' then some v else mget K V l k
def mset (K V : Ty) : Mp K V → K.Den → V.Den → Mp K V
  | [], k, v => [some (k, v)]
  | none :: l, k, v => none :: mset K V l k v
  | some (k', v') :: l, k, v => bif eqT K k k' then some (k', v) :: l else some (k', v') :: mset K V l k v
/-- the place of a key, or the next one -/
def mpos (K V : Ty) : Mp K V → K.Den → Nat
  | [], _ => 0
  | none :: l, k => mpos K V l k + 1
  | some (k', v') :: l, k => bif eqT K k k' then 0 else mpos K V l k + 1
def mhas (K V : Ty) : Mp K V → Nat → Bool
  | [], _ => false
  | none :: _, 0 => false
  | some _ :: _, 0 => true
  | _ :: l, i + 1 => mhas K V l i
def mput (K V : Ty) : Mp K V → Nat → V.Den → Mp K V
  | [], _, _ => []
  | none :: l, 0, _ => none :: l
  | some (k, _) :: l, 0, v => some (k, v) :: l
  | x :: l, i + 1, v => x :: mput K V l i v
def mdel (K V : Ty) : Mp K V → K.Den → Mp K V
  | [], _ => []
  | none :: l, k => none :: mdel K V l k
  | some (k', v') :: l, k => bif eqT K k k' then none :: l else some (k', v') :: mdel K V l k
def mlen (K V : Ty) : Mp K V → Nat
  | [] => 0
  | none :: l => mlen K V l
  | some _ :: l => mlen K V l + 1

/-- The entries that stand for it: an entry's birth is its place. -/
def ents (ka : Bool) (K : Ty) (va : Bool) (V : Ty) : Nat → Mp K V → List MapEntry
  | _, [] => []
  | j, none :: l => ents ka K va V (j + 1) l
  | j, some (k, v) :: l => ⟨valF ka K k, valF va V v, j⟩ :: ents ka K va V (j + 1) l

/-- the entry of a key, among those that are there -/
def mfind (K V : Ty) : Mp K V → K.Den → Nat → Option (Nat × V.Den)
  | [], _, _ => none
  | none :: l, k, i => mfind K V l k i
  | some (k', v) :: l, k, i => bif eqT K k k' then some (i, v) else mfind K V l k (i + 1)

section
variable {K V : Ty} {ka va : Bool}
theorem mfind_get : ∀ (xs : Mp K V) (k : K.Den) (i : Nat), mget K V xs k = (mfind K V xs k i).map (·.2)
  | [], _, _ => rfl
  | none :: l, k, i => by simp only [mget, mfind, mfind_get l k i]
  | some (k', v) :: l, k, i => by
    simp only [mget, mfind]
    cases eqT K k k' with
    | true => rfl
    | false => exact mfind_get l k (i + 1)
theorem mfind_ge : ∀ {xs : Mp K V} {k : K.Den} {i j : Nat} {v : V.Den}, mfind K V xs k i = some (j, v) → i ≤ j
  | [], _, _, _, _, h => by simp [mfind] at h
  | none :: l, k, i, j, v, h => by simp only [mfind] at h; exact mfind_ge h
  | some (k', v') :: l, k, i, j, v, h => by
    simp only [mfind] at h
    cases he : eqT K k k' with
    | true => rw [he] at h; simp only [cond_true, Option.some.injEq, Prod.mk.injEq] at h; omega
    | false => rw [he] at h; have := mfind_ge (i := i + 1) h; omega
/-- A key that is there: its entry is made anew. -/
theorem ents_hit : ∀ {xs : Mp K V} {k : K.Den} {i j : Nat} {n : Nat} {v : V.Den} (x : V.Den), flatT K = true → mfind K V xs k i = some (i + n, v) →
    ents ka K va V j (mset K V xs k x) = (ents ka K va V j xs).modify n (fun e => { e with key := valF ka K k, val := valF va V x }) ∧ (mset K V xs k x).length = xs.length ∧ ((ents ka K va V j xs)[n]?).map (·.key) = some (valF ka K k)
  | [], _, _, _, _, _, _, _, h => by simp [mfind] at h
  | none :: l, k, i, j, n, v, x, hk, h => by
    simp only [mfind] at h
    obtain ⟨h1, h2, h3⟩ := ents_hit (j := j + 1) x hk h
    exact ⟨by simp only [mset, ents, h1], by simp only [mset, List.length_cons, h2], by simpa only [ents] using h3⟩
  | some (k', v') :: l, k, i, j, n, v, x, hk, h => by
    simp only [mfind] at h
    cases he : eqT K k k' with
    | true =>
      rw [he] at h
      simp only [cond_true, Option.some.injEq, Prod.mk.injEq] at h
      obtain rfl : n = 0 := by omega
      obtain rfl := (eqT_iff hk).1 he
      simp only [mset, he, cond_true, ents, List.modify_zero_cons, List.length_cons, List.getElem?_cons_zero, Option.map_some, and_self]
    | false =>
      rw [he] at h
      have hge := mfind_ge h
      obtain ⟨m, rfl⟩ : ∃ m, n = m + 1 := ⟨n - 1, by omega⟩
      obtain ⟨h1, h2, h3⟩ := ents_hit (i := i + 1) (j := j + 1) (n := m) x hk (by rw [show i + 1 + m = i + (m + 1) by omega]; exact h)
      exact ⟨by simp only [mset, he, cond_false, ents, List.modify_succ_cons, h1], by simp only [mset, he, cond_false, List.length_cons, h2], by simpa only [ents, List.getElem?_cons_succ] using h3⟩
/-- A key that is not there: it comes behind all others. -/
theorem ents_new : ∀ {xs : Mp K V} {k : K.Den} {i j : Nat} (x : V.Den), mfind K V xs k i = none →
    ents ka K va V j (mset K V xs k x) = ents ka K va V j xs ++ [⟨valF ka K k, valF va V x, j + xs.length⟩] ∧ (mset K V xs k x).length = xs.length + 1
  | [], k, i, j, x, _ => ⟨rfl, rfl⟩
  | none :: l, k, i, j, x, h => by
    simp only [mfind] at h
    obtain ⟨h1, h2⟩ := ents_new (j := j + 1) x h
    exact ⟨by simp only [mset, ents, h1, List.length_cons, show j + 1 + l.length = j + (l.length + 1) by omega], by simp only [mset, List.length_cons, h2]⟩
  | some (k', v') :: l, k, i, j, x, h => by
    simp only [mfind] at h
    cases he : eqT K k k' with
    | true => rw [he] at h; cases h
    | false =>
      rw [he] at h
      obtain ⟨h1, h2⟩ := ents_new (j := j + 1) x h
      exact ⟨by simp only [mset, he, cond_false, ents, h1, List.cons_append, List.length_cons, show j + 1 + l.length = j + (l.length + 1) by omega], by simp only [mset, he, cond_false, List.length_cons, h2]⟩
theorem ents_born : ∀ {xs : Mp K V} {j : Nat} {e : MapEntry}, e ∈ ents ka K va V j xs → j ≤ e.born ∧ e.born < j + xs.length
  | [], j, e, h => by simp [ents] at h
  | none :: l, j, e, h => by
    simp only [ents] at h
    have := ents_born h
    simp only [List.length_cons]
    omega
  | some (k, v) :: l, j, e, h => by
    simp only [ents, List.mem_cons] at h
    simp only [List.length_cons]
    rcases h with rfl | h
    · exact ⟨Nat.le_refl _, by show j < _; omega⟩
    · have := ents_born h
      omega
theorem mpos_hit : ∀ {xs : Mp K V} {k : K.Den} {i j n : Nat} {v : V.Den}, mfind K V xs k i = some (i + n, v) → ((ents ka K va V j xs)[n]?).map (·.born) = some (j + mpos K V xs k)
  | [], _, _, _, _, _, h => by simp [mfind] at h
  | none :: l, k, i, j, n, v, h => by
    simp only [mfind] at h
    have := mpos_hit (j := j + 1) h
    simp only [ents, mpos, this]
    congr 1; omega
  | some (k', v') :: l, k, i, j, n, v, h => by
    simp only [mfind] at h
    cases he : eqT K k k' with
    | true =>
      rw [he] at h
      simp only [cond_true, Option.some.injEq, Prod.mk.injEq] at h
      obtain rfl : n = 0 := by omega
      simp [ents, mpos, he]
    | false =>
      rw [he] at h
      have hge := mfind_ge h
      obtain ⟨m, rfl⟩ : ∃ m, n = m + 1 := ⟨n - 1, by omega⟩
      have := mpos_hit (i := i + 1) (j := j + 1) (n := m) (by rw [show i + 1 + m = i + (m + 1) by omega]; exact h)
      simp only [ents, mpos, he, cond_false, List.getElem?_cons_succ, this]
      congr 1; omega
theorem mpos_new : ∀ {xs : Mp K V} {k : K.Den} {i : Nat}, mfind K V xs k i = none → mpos K V xs k = xs.length
  | [], _, _, _ => rfl
  | none :: l, k, i, h => by simp only [mfind] at h; simp only [mpos, mpos_new h, List.length_cons]
  | some (k', v') :: l, k, i, h => by
    simp only [mfind] at h
    cases he : eqT K k k' with
    | true => rw [he] at h; cases h
    | false => rw [he] at h; simp only [mpos, he, cond_false, mpos_new h, List.length_cons]
/-- The entry of a birth. -/
theorem ents_at : ∀ {xs : Mp K V} {j s : Nat} (x : V.Den), mhas K V xs s = true →
    ∃ n, (ents ka K va V j xs).findIdx? (fun e => (e.born : Int) == ((j + s : Nat) : Int)) = some n ∧ ents ka K va V j (mput K V xs s x) = (ents ka K va V j xs).modify n (fun e => { e with val := valF va V x })
  | [], j, s, x, h => by simp [mhas] at h
  | none :: l, j, 0, x, h => by simp [mhas] at h
  | some (k, v) :: l, j, 0, x, h => ⟨0, by simp [ents, List.findIdx?_cons], by simp [ents, mput]⟩
  | none :: l, j, s + 1, x, h => by
    simp only [mhas] at h
    obtain ⟨n, h1, h2⟩ := ents_at (j := j + 1) x h
    rw [show j + 1 + s = j + (s + 1) by omega] at h1
    exact ⟨n, by simpa only [ents] using h1, by simpa only [ents, mput] using h2⟩
  | some (k, v) :: l, j, s + 1, x, h => by
    simp only [mhas] at h
    obtain ⟨n, h1, h2⟩ := ents_at (j := j + 1) x h
    rw [show j + 1 + s = j + (s + 1) by omega] at h1
    refine ⟨n + 1, ?_, by simp only [ents, mput, List.modify_succ_cons, h2]⟩
    have hne : ((j : Int) == ((j + (s + 1) : Nat) : Int)) = false := by simp; omega
    simp only [ents, List.findIdx?_cons, hne, h1]
    rfl
theorem mput_len : ∀ (xs : Mp K V) (s : Nat) (x : V.Den), (mput K V xs s x).length = xs.length
  | [], _, _ => rfl
  | none :: l, 0, _ => rfl
  | some _ :: l, 0, _ => rfl
  | none :: l, s + 1, x => by simp only [mput, List.length_cons, mput_len l s x]
  | some _ :: l, s + 1, x => by simp only [mput, List.length_cons, mput_len l s x]
theorem mlen_ents : ∀ (xs : Mp K V) (j : Nat), (ents ka K va V j xs).length = mlen K V xs
  | [], _ => rfl
  | none :: l, j => by simp only [ents, mlen, mlen_ents l (j + 1)]
  | some (k, v) :: l, j => by simp only [ents, mlen, List.length_cons, mlen_ents l (j + 1)]
theorem mdel_hit : ∀ {xs : Mp K V} {k : K.Den} {i j n : Nat} {v : V.Den}, mfind K V xs k i = some (i + n, v) → ents ka K va V j (mdel K V xs k) = (ents ka K va V j xs).eraseIdx n
  | [], _, _, _, _, _, h => by simp [mfind] at h
  | none :: l, k, i, j, n, v, h => by
    simp only [mfind] at h
    simp only [mdel, ents, mdel_hit (j := j + 1) h]
  | some (k', v') :: l, k, i, j, n, v, h => by
    simp only [mfind] at h
    cases he : eqT K k k' with
    | true =>
      rw [he] at h
      simp only [cond_true, Option.some.injEq, Prod.mk.injEq] at h
      obtain rfl : n = 0 := by omega
      simp [ents, mdel, he]
    | false =>
      rw [he] at h
      have hge := mfind_ge h
      obtain ⟨m, rfl⟩ : ∃ m, n = m + 1 := ⟨n - 1, by omega⟩
      have := mdel_hit (i := i + 1) (j := j + 1) (n := m) (by rw [show i + 1 + m = i + (m + 1) by omega]; exact h)
      simp only [ents, mdel, he, cond_false, List.eraseIdx_cons_succ, this]
theorem mdel_new : ∀ {xs : Mp K V} {k : K.Den} {i : Nat}, mfind K V xs k i = none → mdel K V xs k = xs
  | [], _, _, _ => rfl
  | none :: l, k, i, h => by simp only [mfind] at h; simp only [mdel, mdel_new h]
  | some (k', v') :: l, k, i, h => by
    simp only [mfind] at h
    cases he : eqT K k k' with
    | true => rw [he] at h; cases h
    | false => rw [he] at h; simp only [mdel, he, cond_false, mdel_new h]
theorem mdel_len : ∀ (xs : Mp K V) (k : K.Den), (mdel K V xs k).length = xs.length
  | [], _ => rfl
  | none :: l, k => by simp only [mdel, List.length_cons, mdel_len l k]
  | some (k', v') :: l, k => by
    simp only [mdel]
    cases eqT K k k' with
    | true => rfl
    | false => simp only [cond_false, List.length_cons, mdel_len l k]
end
end Go.Am
