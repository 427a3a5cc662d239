/- The abstract machine, part 1: its values, its memory, what they stand for. No statement of its own. -/
import Derived.Test.YtfhcockdlfidmaaVk10
namespace Go.Am
open Go.Vk Go.RowKit
set_option linter.unusedVariables false
set_option linter.unusedSimpArgs false
variable [Dr]

/-- What a slot or a cell is known to hold. -/
inductive AV where
  /-- nothing is known -/
  | unk
  /-- just this value -/
  | val (v : Value)
  /-- a known block's cell -/
  | ptr (b off : Nat)
  /-- a slice that reads so, and stays so (perm: for good) -/
  | sv (perm : Bool) (T : Ty) (xs : List T.Den)
  /-- the address of a cell of such a slice's element -/
  | ep (perm : Bool) (T : Ty) (xs : List T.Den) (i off : Nat)
  /-- the slice of a known row -/
  | row (r : Nat)
  /-- the address of a cell of a known row's element -/
  | rp (r sz i off : Nat)
  /-- a known map -/
  | map (m : Nat)
  | clo (fn : Fn) (first caps : List AV)
  | ifc (t : TypeId) (x : AV)
  | agg (cs : List AV)
  | tup (vs : List AV)

/-- A map's types: keys, values. -/
structure MTy where
  kt : TypeId
  vt : TypeId
  ka : Bool
  K : Ty
  va : Bool
  V : Ty
/-- A known block. -/
inductive AB where
  | cells (T : TypeId) (cs : List AV)
  | row (T : Ty) (e : TypeId) (xs : List T.Den)
  | map (m : MTy) (xs : Mp m.K m.V)
  | gone
  /-- it is read alone, for now -/
  | lock (x : AB)

/-- The tags of blocks that are read (Pr), and of those that are let alone (Kp); all are below a bound. -/
structure Env where
  Pr : Nat → Prop
  Kp : Nat → Prop
  bnd : Nat
  nought : Pr 0
  sub : ∀ t, Pr t → Kp t
  low : ∀ t, Kp t → t < bnd

mutual
def Rel (E : Env) (σ : Gh) (w : World) (β : List Value) : AV → Value → Prop
  | .unk, _ => True
  | .val v, u => u = v
  | .ptr b off, u => ∃ n, β[b]? = some (.pointer (some ⟨n, 0, none⟩)) ∧ u = .pointer (some ⟨n, off, none⟩)
  | .sv p T xs, u => ∃ A c t, u = .slice A xs.length c ∧ xs.length ≤ c ∧ E.Pr t ∧ (p = true → t = 0) ∧ Rd T.kd σ t w A xs
  | .ep p T xs i off, u => ∃ ad t, u = .pointer (some (ad.add (i * T.sz + off))) ∧ i < xs.length ∧ E.Pr t ∧ (p = true → t = 0) ∧ Rd T.kd σ t w (some ad) xs
  | .row r, u => β[r]? = some u ∧ u.oneCell' = true
  | .rp r sz i off, u => ∃ ad n c, β[r]? = some (.slice (some ad) n c) ∧ i < n ∧ u = .pointer (some (ad.add (i * sz + off)))
  | .map m, u => β[m]? = some u ∧ u.oneCell' = true
  | .clo fn fs cs, u => ∃ vs us, u = .func fn vs.toArray us.toArray ∧ RelL E σ w β fs vs ∧ RelL E σ w β cs us
  | .ifc t x, u => ∃ v, u = .iface t v ∧ Rel E σ w β x v
  | .agg cs, u => ∃ vs, u = .agg vs.toArray ∧ RelL E σ w β cs vs
  | .tup cs, u => ∃ vs, u = .tuple vs.toArray ∧ RelL E σ w β cs vs
def RelL (E : Env) (σ : Gh) (w : World) (β : List Value) : List AV → List Value → Prop
  | [], vs => vs = []
  | c :: cs, vs => ∃ v r, vs = v :: r ∧ Rel E σ w β c v ∧ RelL E σ w β cs r
end

/-- From (σ, w) to (σ', w'): what bears a tag outside of C is as it was. -/
structure EvT (C : Nat → Prop) (σ : Gh) (w : World) (σ' : Gh) (w' : World) : Prop where
  os : w'.os = w.os
  tape : w'.tape = w.tape
  output : w'.output = w.output
  drawn : Dr.D → w.drawn ≤ w'.drawn
  size : w.heap.size ≤ w'.heap.size
  keep : ∀ b, b < w.heap.size → ¬ C (σ b) → σ' b = σ b ∧ w'.heap[b]? = w.heap[b]?

section
variable {C C' : Nat → Prop} {σ σ1 σ2 : Gh} {w w1 w2 : World} {t : Nat}
theorem EvT.refl : EvT C σ w σ w := ⟨rfl, rfl, rfl, fun _ => Nat.le_refl _, Nat.le_refl _, fun _ _ _ => ⟨rfl, rfl⟩⟩
theorem EvT.trans (h : EvT C σ w σ1 w1) (k : EvT C σ1 w1 σ2 w2) : EvT C σ w σ2 w2 :=
  ⟨k.os.trans h.os, k.tape.trans h.tape, k.output.trans h.output, fun d => Nat.le_trans (h.drawn d) (k.drawn d), Nat.le_trans h.size k.size, fun b hb hn => by
    obtain ⟨h1, h2⟩ := h.keep b hb hn
    obtain ⟨k1, k2⟩ := k.keep b (Nat.lt_of_lt_of_le hb h.size) (by rw [h1]; exact hn)
    exact ⟨k1.trans h1, k2.trans h2⟩⟩
theorem EvT.mono (h : EvT C σ w σ1 w1) (hc : ∀ t, C t → C' t) : EvT C' σ w σ1 w1 :=
  ⟨h.os, h.tape, h.output, h.drawn, h.size, fun b hb hn => h.keep b hb fun hc' => hn (hc _ hc')⟩
/-- Behind (σ, w), whose tags are all below r: what is turned at tags from r on is no old one. -/
theorem EvT.loc {r : Nat} {C0 : Nat → Prop} {σ0 : Gh} {w0 : World} (h : EvT C0 σ0 w0 σ1 w1) (hr : ∀ b, b < w0.heap.size → σ0 b < r) (k : EvT C σ1 w1 σ2 w2) (hc : ∀ t, C t → C0 t ∨ r ≤ t) : EvT C0 σ0 w0 σ2 w2 :=
  ⟨k.os.trans h.os, k.tape.trans h.tape, k.output.trans h.output, fun d => Nat.le_trans (h.drawn d) (k.drawn d), Nat.le_trans h.size k.size, fun b hb hn => by
    obtain ⟨h1, h2⟩ := h.keep b hb hn
    have hlt := hr b hb
    obtain ⟨k1, k2⟩ := k.keep b (Nat.lt_of_lt_of_le hb h.size) (by
      rw [h1]; intro hc'
      rcases hc _ hc' with h3 | h3
      · exact hn h3
      · omega)
    exact ⟨k1.trans h1, k2.trans h2⟩⟩
theorem EvT.ev1 (h : EvT C σ w σ1 w1) (h0 : ¬ C 0) : ∃ hi, Ev 1 hi σ w σ1 w1 := by
  obtain ⟨r, hr, hlt⟩ := Gh.fresh σ 2 w.heap.size
  refine ⟨r, h.os, h.tape, h.output, h.drawn, h.size, fun b hb hn => h.keep b hb fun hc => ?_⟩
  have := hlt b hb
  have h2 : σ b = 0 := by omega
  rw [h2] at hc
  exact h0 hc
theorem EvT.of {lo hi : Nat} (h : Ev lo hi σ w σ1 w1) (hc : ∀ t, lo ≤ t → t < hi → C t) : EvT C σ w σ1 w1 :=
  ⟨h.os, h.tape, h.output, h.drawn, h.size, fun b hb hn => h.keep b hb fun ⟨h1, h2⟩ => hn (hc _ h1 h2)⟩
theorem blk_evT {b : Nat} {T : TypeId} {cs : Array Value} (h : Blk σ t w b T cs) (e : EvT C σ w σ1 w1) (ht : ¬ C t) : Blk σ1 t w1 b T cs := by
  obtain ⟨k1, k2⟩ := e.keep b h.lt (by rw [h.1]; exact ht)
  exact ⟨k1.trans h.1, k2.trans h.2⟩
theorem rd_evT {α : Type} {K : Kd α} {A : Option Addr} {xs : List α} (h : Rd K σ t w A xs) (e : EvT C σ w σ1 w1) (ht : ¬ C t) (h0 : ¬ C 0) : Rd K σ1 t w1 A xs := fun hp => by
  obtain ⟨hi, e1⟩ := e.ev1 h0
  obtain ⟨ad, h1, h2, h3, h4⟩ := h hp
  obtain ⟨k1, k2⟩ := e.keep ad.block h2 (by rw [h3]; exact ht)
  refine ⟨ad, h1, Nat.lt_of_lt_of_le h2 e.size, k1.trans h3, fun j hj => ?_⟩
  obtain ⟨cs, h5, h6⟩ := h4 j hj
  refine ⟨cs, K.ev h5 e1 (Nat.le_refl 1), fun i u hu => ?_⟩
  rw [World.cell?_of_block (w := w) (by rw [add_block]; exact k2)]
  exact h6 i u hu
theorem own_evT {α : Type} {K : Kd α} {e : TypeId} {v : Value} {xs : List α} (h : Own K e σ t w v xs) (k : EvT C σ w σ1 w1) (ht : ¬ C t) (h0 : ¬ C 0) : Own K e σ1 t w1 v xs := by
  obtain ⟨hi, e1⟩ := k.ev1 h0
  obtain ⟨cs, h1, h2, h3⟩ := h
  rcases h1.2 with ⟨rfl, hn⟩ | ⟨g, cap, cur, rfl, hb, hh, hr⟩
  · exact ⟨cs, ⟨h1.1, .inl ⟨rfl, hn⟩⟩, fun g hg => by simp [Value.ownBlock] at hg, h3.ev e1 (Nat.le_refl 1)⟩
  · have hg := h2 g (by simp [Value.ownBlock])
    obtain ⟨k1, k2⟩ := k.keep g (Array.getElem?_eq_some_iff.1 hh).1 (by rw [hg]; exact ht)
    refine ⟨cs, ⟨h1.1, .inr ⟨g, cap, cur, rfl, hb, k2.trans hh, hr⟩⟩, fun g' hg' => ?_, h3.ev e1 (Nat.le_refl 1)⟩
    have : g = g' := by simpa [Value.ownBlock] using hg'
    subst this
    exact k1.trans hg
end

section
variable {E : Env} {C : Nat → Prop} {σ σ1 : Gh} {w w1 : World} {β β' : List Value}
mutual
theorem Rel.ev (e : EvT C σ w σ1 w1) (hP : ∀ t, E.Pr t → ¬ C t) : ∀ {x : AV} {u : Value}, Rel E σ w β x u → Rel E σ1 w1 β x u
  | .unk, _, h => by simp only [Rel]
  | .val v, u, h => by simp only [Rel] at h ⊢; exact h
  | .ptr b off, u, h => by simp only [Rel] at h ⊢; exact h
  | .sv p T xs, u, h => by
    simp only [Rel] at h ⊢
    obtain ⟨A, c, t, h1, h2, h3, h4, h5⟩ := h
    exact ⟨A, c, t, h1, h2, h3, h4, rd_evT h5 e (hP _ h3) (hP _ E.nought)⟩
  | .ep p T xs i off, u, h => by
    simp only [Rel] at h ⊢
    obtain ⟨A, t, h1, h2, h3, h4, h5⟩ := h
    exact ⟨A, t, h1, h2, h3, h4, rd_evT h5 e (hP _ h3) (hP _ E.nought)⟩
  | .row r, u, h => by simp only [Rel] at h ⊢; exact h
  | .rp r sz i off, u, h => by simp only [Rel] at h ⊢; exact h
  | .map m, u, h => by simp only [Rel] at h ⊢; exact h
  | .clo fn fs cs, u, h => by
    simp only [Rel] at h ⊢
    obtain ⟨vs, us, h1, h2, h3⟩ := h
    exact ⟨vs, us, h1, RelL.ev e hP h2, RelL.ev e hP h3⟩
  | .ifc t x, u, h => by
    simp only [Rel] at h ⊢
    obtain ⟨v, h1, h2⟩ := h
    exact ⟨v, h1, Rel.ev e hP h2⟩
  | .agg cs, u, h => by
    simp only [Rel] at h ⊢
    obtain ⟨vs, h1, h2⟩ := h
    exact ⟨vs, h1, RelL.ev e hP h2⟩
  | .tup cs, u, h => by
    simp only [Rel] at h ⊢
    obtain ⟨vs, h1, h2⟩ := h
    exact ⟨vs, h1, RelL.ev e hP h2⟩
theorem RelL.ev (e : EvT C σ w σ1 w1) (hP : ∀ t, E.Pr t → ¬ C t) : ∀ {xs : List AV} {us : List Value}, RelL E σ w β xs us → RelL E σ1 w1 β xs us
  | [], us, h => by simp only [RelL] at h ⊢; exact h
  | x :: xs, us, h => by
    simp only [RelL] at h ⊢
    obtain ⟨v, r, h1, h2, h3⟩ := h
    exact ⟨v, r, h1, Rel.ev e hP h2, RelL.ev e hP h3⟩
end
end

section
variable {E E' : Env} {σ : Gh} {w : World} {β β' : List Value}
mutual
theorem Rel.env (hE : ∀ t, E.Pr t → E'.Pr t) : ∀ {x : AV} {u : Value}, Rel E σ w β x u → Rel E' σ w β x u
  | .unk, _, h => by simp only [Rel]
  | .val v, u, h => by simp only [Rel] at h ⊢; exact h
  | .ptr b off, u, h => by simp only [Rel] at h ⊢; exact h
  | .sv p T xs, u, h => by
    simp only [Rel] at h ⊢
    obtain ⟨A, c, t, h1, h2, h3, h4, h5⟩ := h
    exact ⟨A, c, t, h1, h2, hE _ h3, h4, h5⟩
  | .ep p T xs i off, u, h => by
    simp only [Rel] at h ⊢
    obtain ⟨A, t, h1, h2, h3, h4, h5⟩ := h
    exact ⟨A, t, h1, h2, hE _ h3, h4, h5⟩
  | .row r, u, h => by simp only [Rel] at h ⊢; exact h
  | .rp r sz i off, u, h => by simp only [Rel] at h ⊢; exact h
  | .map m, u, h => by simp only [Rel] at h ⊢; exact h
  | .clo fn fs cs, u, h => by
    simp only [Rel] at h ⊢
    obtain ⟨vs, us, h1, h2, h3⟩ := h
    exact ⟨vs, us, h1, RelL.env hE h2, RelL.env hE h3⟩
  | .ifc t x, u, h => by
    simp only [Rel] at h ⊢
    obtain ⟨v, h1, h2⟩ := h
    exact ⟨v, h1, Rel.env hE h2⟩
  | .agg cs, u, h => by
    simp only [Rel] at h ⊢
    obtain ⟨vs, h1, h2⟩ := h
    exact ⟨vs, h1, RelL.env hE h2⟩
  | .tup cs, u, h => by
    simp only [Rel] at h ⊢
    obtain ⟨vs, h1, h2⟩ := h
    exact ⟨vs, h1, RelL.env hE h2⟩
theorem RelL.env (hE : ∀ t, E.Pr t → E'.Pr t) : ∀ {xs : List AV} {us : List Value}, RelL E σ w β xs us → RelL E' σ w β xs us
  | [], us, h => by simp only [RelL] at h ⊢; exact h
  | x :: xs, us, h => by
    simp only [RelL] at h ⊢
    obtain ⟨v, r, h1, h2, h3⟩ := h
    exact ⟨v, r, h1, Rel.env hE h2, RelL.env hE h3⟩
end
end
section
variable {E : Env} {σ : Gh} {w : World} {β β' : List Value}
omit [Dr] in
theorem get_pre {α : Type} {l l' : List α} {i : Nat} {x : α} (hb : ∃ s, l' = l ++ s) (h : l[i]? = some x) : l'[i]? = some x := by
  obtain ⟨s, rfl⟩ := hb
  rw [List.getElem?_append_left (List.getElem?_eq_some_iff.1 h).1]; exact h
mutual
theorem Rel.more (hb : ∃ s, β' = β ++ s) : ∀ {x : AV} {u : Value}, Rel E σ w β x u → Rel E σ w β' x u
  | .unk, _, h => by simp only [Rel]
  | .val v, u, h => by simp only [Rel] at h ⊢; exact h
  | .ptr b off, u, h => by
    simp only [Rel] at h ⊢
    obtain ⟨n, h1, h2⟩ := h
    exact ⟨n, get_pre hb h1, h2⟩
  | .sv p T xs, u, h => by simp only [Rel] at h ⊢; exact h
  | .ep p T xs i off, u, h => by simp only [Rel] at h ⊢; exact h
  | .row r, u, h => by simp only [Rel] at h ⊢; exact ⟨get_pre hb h.1, h.2⟩
  | .rp r sz i off, u, h => by
    simp only [Rel] at h ⊢
    obtain ⟨ad, n, c, h1, h2⟩ := h
    exact ⟨ad, n, c, get_pre hb h1, h2⟩
  | .map m, u, h => by simp only [Rel] at h ⊢; exact ⟨get_pre hb h.1, h.2⟩
  | .clo fn fs cs, u, h => by
    simp only [Rel] at h ⊢
    obtain ⟨vs, us, h1, h2, h3⟩ := h
    exact ⟨vs, us, h1, RelL.more hb h2, RelL.more hb h3⟩
  | .ifc t x, u, h => by
    simp only [Rel] at h ⊢
    obtain ⟨v, h1, h2⟩ := h
    exact ⟨v, h1, Rel.more hb h2⟩
  | .agg cs, u, h => by
    simp only [Rel] at h ⊢
    obtain ⟨vs, h1, h2⟩ := h
    exact ⟨vs, h1, RelL.more hb h2⟩
  | .tup cs, u, h => by
    simp only [Rel] at h ⊢
    obtain ⟨vs, h1, h2⟩ := h
    exact ⟨vs, h1, RelL.more hb h2⟩
theorem RelL.more (hb : ∃ s, β' = β ++ s) : ∀ {xs : List AV} {us : List Value}, RelL E σ w β xs us → RelL E σ w β' xs us
  | [], us, h => by simp only [RelL] at h ⊢; exact h
  | x :: xs, us, h => by
    simp only [RelL] at h ⊢
    obtain ⟨v, r, h1, h2, h3⟩ := h
    exact ⟨v, r, h1, Rel.more hb h2, RelL.more hb h3⟩
end
theorem RelL.length : ∀ {xs : List AV} {us : List Value}, RelL E σ w β xs us → us.length = xs.length
  | [], us, h => by simp only [RelL] at h; rw [h]; rfl
  | x :: xs, us, h => by
    simp only [RelL] at h
    obtain ⟨v, r, rfl, h2, h3⟩ := h
    simp [RelL.length h3]
theorem RelL.get : ∀ {xs : List AV} {us : List Value}, RelL E σ w β xs us → ∀ {i : Nat} {x : AV}, xs[i]? = some x → ∃ u, us[i]? = some u ∧ Rel E σ w β x u
  | [], us, h, i, x, hx => by simp at hx
  | y :: xs, us, h, i, x, hx => by
    simp only [RelL] at h
    obtain ⟨v, r, rfl, h2, h3⟩ := h
    cases i with
    | zero =>
      simp only [List.getElem?_cons_zero, Option.some.injEq] at hx
      subst hx
      exact ⟨v, by simp, h2⟩
    | succ i => simpa using RelL.get h3 (i := i) (by simpa using hx)
theorem RelL.set : ∀ {xs : List AV} {us : List Value}, RelL E σ w β xs us → ∀ (i : Nat) {x : AV} {u : Value}, Rel E σ w β x u → RelL E σ w β (xs.set i x) (us.set i u)
  | [], us, h, i, x, u, hx => by simp only [RelL] at h; subst h; simp [RelL]
  | y :: xs, us, h, i, x, u, hx => by
    simp only [RelL] at h
    obtain ⟨v, r, rfl, h2, h3⟩ := h
    cases i with
    | zero => simp only [List.set_cons_zero, RelL]; exact ⟨u, r, rfl, hx, h3⟩
    | succ i => simp only [List.set_cons_succ, RelL]; exact ⟨v, r.set i u, rfl, h2, RelL.set h3 i hx⟩
end

/-- What a known block stands for: t: its tag, v: the real value. -/
def BRel (E : Env) (σ : Gh) (w : World) (β : List Value) (t : Nat) (v : Value) : AB → Prop
  | .cells T cs => ∃ n vs, v = .pointer (some ⟨n, 0, none⟩) ∧ Blk σ t w n T (List.toArray vs) ∧ RelL E σ w β cs vs
  | .row T e xs => Own T.kd e σ t w v xs
  | .map m xs => ∃ n es, v = .map (some n) ∧ w.heap[n]? = some (.map es xs.length) ∧ σ n = t ∧ es.toList = ents m.ka m.K m.va m.V 0 xs
  | .gone => True
  | .lock x => BRel E σ w β t v x
def AB.live : AB → Bool
  | .gone => false
  | .lock x => x.live
  | _ => true

structure St where
  tmps : List AV
  heap : List AB

/-- A state, and what is there. -/
structure Conc (E : Env) (σ : Gh) (τ : Nat → Nat) (β : List Value) (st : St) (a : Act) (w : World) : Prop where
  defers : a.defers = []
  tmps : RelL E σ w β st.tmps a.tmps.toList
  size : β.length = st.heap.length
  heap : ∀ (i : Nat) (x : AB) (v : Value), st.heap[i]? = some x → β[i]? = some v → BRel E σ w β (τ i) v x
  apart : ∀ (i : Nat) (x : AB), st.heap[i]? = some x → x.live = true → ¬ E.Kp (τ i)
  inj : ∀ (i j : Nat) (x y : AB), st.heap[i]? = some x → st.heap[j]? = some y → x.live = true → y.live = true → τ i = τ j → i = j

section
variable {E : Env} {C : Nat → Prop} {σ σ1 : Gh} {τ : Nat → Nat} {w w1 : World} {β : List Value}
theorem BRel.ev {t : Nat} {v : Value} {x : AB} (h : BRel E σ w β t v x) (e : EvT C σ w σ1 w1) (hP : ∀ t, E.Pr t → ¬ C t) (hi : x.live = true → ¬ C t) : BRel E σ1 w1 β t v x := by
  induction x with
  | cells T cs =>
    obtain ⟨n, vs, h1, h2, h3⟩ := h
    exact ⟨n, vs, h1, blk_evT h2 e (hi rfl), RelL.ev e hP h3⟩
  | row T et xs => exact own_evT h e (hi rfl) (hP _ E.nought)
  | map m xs =>
    obtain ⟨n, es, h1, h2, h3, h4⟩ := h
    obtain ⟨k1, k2⟩ := e.keep n (Array.getElem?_eq_some_iff.1 h2).1 (by rw [h3]; exact hi rfl)
    exact ⟨n, es, h1, k2.trans h2, k1.trans h3, h4⟩
  | gone => trivial
  | lock x ih => exact ih h hi
theorem BRel.more {β' : List Value} {t : Nat} {v : Value} {x : AB} (h : BRel E σ w β t v x) (hb : ∃ s, β' = β ++ s) : BRel E σ w β' t v x := by
  induction x with
  | cells T cs =>
    obtain ⟨n, vs, h1, h2, h3⟩ := h
    exact ⟨n, vs, h1, h2, RelL.more hb h3⟩
  | row T et xs => exact h
  | map m xs => exact h
  | gone => trivial
  | lock x ih => exact ih h
def AB.bare : AB → AB
  | .lock x => x.bare
  | x => x
theorem BRel.bare {t : Nat} {v : Value} : ∀ {x : AB}, BRel E σ w β t v x → BRel E σ w β t v x.bare
  | .lock x, h => BRel.bare (x := x) h
  | .cells _ _, h => h
  | .row _ _ _, h => h
  | .map _ _, h => h
  | .gone, h => h
/-- a block, to be read -/
def look (H : List AB) (b : Nat) : Option AB :=
  match H[b]? with
  | some x => some x.bare
  | none => none
theorem Conc.look {st : St} {a : Act} {i : Nat} {x : AB} {v : Value} (hC : Conc E σ τ β st a w) (hx : look st.heap i = some x) (hv : β[i]? = some v) : BRel E σ w β (τ i) v x := by
  unfold Am.look at hx
  split at hx
  · rename_i y hy
    obtain rfl := Option.some.inj hx
    exact BRel.bare (hC.heap i _ v hy hv)
  · cases hx
/-- What is locked stays. -/
def HPres (H H' : List AB) : Prop := H.length ≤ H'.length ∧ ∀ (i : Nat) (b : AB), H[i]? = some (.lock b) → H'[i]? = some (.lock b)
omit [Dr] in
theorem HPres.refl (H : List AB) : HPres H H := ⟨Nat.le_refl _, fun _ _ h => h⟩
omit [Dr] in
theorem HPres.trans {H H' H'' : List AB} (h : HPres H H') (k : HPres H' H'') : HPres H H'' := ⟨Nat.le_trans h.1 k.1, fun i b hb => k.2 i b (h.2 i b hb)⟩
omit [Dr] in
theorem HPres.app (H l : List AB) : HPres H (H ++ l) := ⟨by simp, fun i b h => by rw [List.getElem?_append_left (List.getElem?_eq_some_iff.1 h).1]; exact h⟩
omit [Dr] in
theorem HPres.set {H : List AB} {i : Nat} {x y : AB} (hx : H[i]? = some x) (hl : ∀ b, x ≠ .lock b) : HPres H (H.set i y) := ⟨by simp, fun j b h => by
  rw [List.getElem?_set]
  by_cases hij : i = j
  · subst hij
    rw [hx] at h
    exact absurd (Option.some.inj h) (hl b)
  · rw [if_neg hij]; exact h⟩

/-! ### of which blocks a value speaks -/
mutual
def AV.under (n : Nat) : AV → Prop
  | .ptr b _ => b < n
  | .row r => r < n
  | .rp r _ _ _ => r < n
  | .map m => m < n
  | .clo _ fs cs => AV.underL n fs ∧ AV.underL n cs
  | .ifc _ x => AV.under n x
  | .agg cs => AV.underL n cs
  | .tup cs => AV.underL n cs
  | _ => True
def AV.underL (n : Nat) : List AV → Prop
  | [] => True
  | x :: xs => AV.under n x ∧ AV.underL n xs
end
omit [Dr] in
theorem lt_of_get {α : Type} {l : List α} {i : Nat} {x : α} (h : l[i]? = some x) : i < l.length := (List.getElem?_eq_some_iff.1 h).1
mutual
theorem Rel.under : ∀ {x : AV} {u : Value}, Rel E σ w β x u → x.under β.length
  | .unk, _, h => by simp [AV.under]
  | .val v, u, h => by simp [AV.under]
  | .ptr b off, u, h => by simp only [Rel] at h; obtain ⟨n, h1, _⟩ := h; exact lt_of_get h1
  | .sv p T xs, u, h => by simp [AV.under]
  | .ep p T xs i off, u, h => by simp [AV.under]
  | .row r, u, h => by simp only [Rel] at h; exact lt_of_get h.1
  | .rp r sz i off, u, h => by simp only [Rel] at h; obtain ⟨ad, n, c, h1, _⟩ := h; exact lt_of_get h1
  | .map m, u, h => by simp only [Rel] at h; exact lt_of_get h.1
  | .clo fn fs cs, u, h => by simp only [Rel] at h; obtain ⟨vs, us, _, h2, h3⟩ := h; simp only [AV.under]; exact ⟨RelL.under h2, RelL.under h3⟩
  | .ifc t x, u, h => by simp only [Rel] at h; obtain ⟨v, _, h2⟩ := h; simp only [AV.under]; exact Rel.under h2
  | .agg cs, u, h => by simp only [Rel] at h; obtain ⟨vs, _, h2⟩ := h; simp only [AV.under]; exact RelL.under h2
  | .tup cs, u, h => by simp only [Rel] at h; obtain ⟨vs, _, h2⟩ := h; simp only [AV.under]; exact RelL.under h2
theorem RelL.under : ∀ {xs : List AV} {us : List Value}, RelL E σ w β xs us → AV.underL β.length xs
  | [], us, h => by simp [AV.underL]
  | x :: xs, us, h => by simp only [RelL] at h; obtain ⟨v, r, _, h2, h3⟩ := h; simp only [AV.underL]; exact ⟨Rel.under h2, RelL.under h3⟩
end
mutual
theorem Rel.less {s : List Value} : ∀ {x : AV} {u : Value}, Rel E σ w (β ++ s) x u → x.under β.length → Rel E σ w β x u
  | .unk, _, h, _ => by simp only [Rel]
  | .val v, u, h, _ => by simp only [Rel] at h ⊢; exact h
  | .ptr b off, u, h, hb => by
    simp only [Rel] at h ⊢
    simp only [AV.under] at hb
    rw [List.getElem?_append_left hb] at h
    exact h
  | .sv p T xs, u, h, _ => by simp only [Rel] at h ⊢; exact h
  | .ep p T xs i off, u, h, _ => by simp only [Rel] at h ⊢; exact h
  | .row r, u, h, hb => by
    simp only [Rel] at h ⊢
    simp only [AV.under] at hb
    rw [List.getElem?_append_left hb] at h
    exact h
  | .rp r sz i off, u, h, hb => by
    simp only [Rel] at h ⊢
    simp only [AV.under] at hb
    rw [List.getElem?_append_left hb] at h
    exact h
  | .map m, u, h, hb => by
    simp only [Rel] at h ⊢
    simp only [AV.under] at hb
    rw [List.getElem?_append_left hb] at h
    exact h
  | .clo fn fs cs, u, h, hb => by
    simp only [Rel] at h ⊢
    simp only [AV.under] at hb
    obtain ⟨vs, us, h1, h2, h3⟩ := h
    exact ⟨vs, us, h1, RelL.less h2 hb.1, RelL.less h3 hb.2⟩
  | .ifc t x, u, h, hb => by
    simp only [Rel] at h ⊢
    simp only [AV.under] at hb
    obtain ⟨v, h1, h2⟩ := h
    exact ⟨v, h1, Rel.less h2 hb⟩
  | .agg cs, u, h, hb => by
    simp only [Rel] at h ⊢
    simp only [AV.under] at hb
    obtain ⟨v, h1, h2⟩ := h
    exact ⟨v, h1, RelL.less h2 hb⟩
  | .tup cs, u, h, hb => by
    simp only [Rel] at h ⊢
    simp only [AV.under] at hb
    obtain ⟨v, h1, h2⟩ := h
    exact ⟨v, h1, RelL.less h2 hb⟩
theorem RelL.less {s : List Value} : ∀ {xs : List AV} {us : List Value}, RelL E σ w (β ++ s) xs us → AV.underL β.length xs → RelL E σ w β xs us
  | [], us, h, _ => by simp only [RelL] at h ⊢; exact h
  | x :: xs, us, h, hb => by
    simp only [RelL] at h ⊢
    simp only [AV.underL] at hb
    obtain ⟨v, r, h1, h2, h3⟩ := h
    exact ⟨v, r, h1, Rel.less h2 hb.1, RelL.less h3 hb.2⟩
end
end
end Go.Am
