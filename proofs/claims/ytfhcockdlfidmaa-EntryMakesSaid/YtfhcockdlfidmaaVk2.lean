/- The walk's own words, part 2: blocks, slices that are read, rows that are owned. No statement of its own. -/
import Derived.Test.YtfhcockdlfidmaaVk1
import Derived.Laws.OwnMore
import Derived.Maps.AppendAt
import Derived.OwnWalk
import Derived.Laws.Rows
import Derived.Deep.MidRow
import Derived.Deep.DeepCutAuto
namespace Go.Vk
set_option linter.unusedVariables false
set_option linter.unusedSimpArgs false
variable [Dr]
open Go.RowKit

omit [Dr] in
theorem add_add (a : Addr) (i j : Nat) : (a.add i).add j = a.add (i + j) := by
  unfold Addr.add
  by_cases hi : i = 0 <;> by_cases hj : j = 0 <;> simp [hi, hj, Nat.add_assoc]
omit [Dr] in
theorem add_block (a : Addr) (n : Nat) : (a.add n).block = a.block := by unfold Addr.add; split <;> rfl
omit [Dr] in
theorem add_mk (b o n : Nat) : (⟨b, o, none⟩ : Addr).add n = ⟨b, o + n, none⟩ := by unfold Addr.add; split <;> simp_all

/-! ### a block that is known whole -/
def Blk (σ : Gh) (t : Nat) (w : World) (b : Nat) (T : TypeId) (cs : Array Value) : Prop :=
  σ b = t ∧ w.heap[b]? = some (.cells cs T (0, 0))

section
variable {σ σ' : Gh} {t lo hi b : Nat} {w w' : World} {T : TypeId} {cs : Array Value}
omit [Dr] in
theorem Blk.lt (h : Blk σ t w b T cs) : b < w.heap.size := (Array.getElem?_eq_some_iff.1 h.2).1
theorem Blk.ev (h : Blk σ t w b T cs) (e : Ev lo hi σ w σ' w') (ht : t < lo ∨ hi ≤ t) : Blk σ' t w' b T cs := by
  obtain ⟨k1, k2⟩ := e.keep b h.lt (by rw [h.1]; omega)
  exact ⟨k1.trans h.1, k2.trans h.2⟩
omit [Dr] in
theorem Blk.cell (h : Blk σ t w b T cs) (i : Nat) : w.cell? ⟨b, i, none⟩ = cs[i]? := by simp [World.cell?, h.2]
omit [Dr] in
theorem Blk.frozen (h : Blk σ t w b T cs) (i : Nat) : w.frozen? ⟨b, i, none⟩ = false := by simp [World.frozen?, h.2]
end

/-- a tag for the newest block -/
def upd (σ : Gh) (b t : Nat) : Gh := fun x => if x = b then t else σ x
theorem ev_alloc (σ : Gh) (w : World) (o : Obj) (t lo hi : Nat) : Ev lo hi σ w (upd σ w.heap.size t) { w with heap := w.heap.push o } :=
  ⟨rfl, rfl, rfl, fun _ => Nat.le_refl _, by simp, fun b hb _ => ⟨by simp [upd, Nat.ne_of_lt hb], by
    show (w.heap.push o)[b]? = _
    rw [Array.getElem?_push, if_neg (by omega)]⟩⟩
omit [Dr] in
theorem blk_alloc (σ : Gh) (w : World) (cs : Array Value) (T t : Nat) : Blk (upd σ w.heap.size t) t { w with heap := w.heap.push (.cells cs T) } w.heap.size T cs :=
  ⟨by simp [upd], by simp⟩
theorem ev_drew (σ : Gh) (w : World) (lo hi : Nat) : Ev lo hi σ w σ { w with drawn := w.drawn + 1 } := ⟨rfl, rfl, rfl, fun _ => Nat.le_succ _, Nat.le_refl _, fun _ _ _ => ⟨rfl, rfl⟩⟩

omit [Dr] in
theorem setCell_heap (w : World) (a : Addr) (v : Value) (b : Nat) : (w.setCell a v).heap[b]? = (if b = a.block then (w.heap[b]?).map fun
      | .cells c elem frozen => .cells (if a.spot.isSome then c else c.setIfInBounds a.off v) elem frozen
      | o => o else w.heap[b]?) := by
  simp only [World.setCell, Array.getElem?_modify]
  by_cases h : a.block = b
  · simp only [h, if_true]; rfl
  · rw [if_neg h, if_neg (fun e => h e.symm)]

section
variable {σ : Gh} {t b : Nat} {w : World} {T : TypeId} {cs : Array Value}
omit [Dr] in
theorem Blk.set_ (h : Blk σ t w b T cs) (i : Nat) (v : Value) : Blk σ t (w.setCell ⟨b, i, none⟩ v) b T (cs.setIfInBounds i v) :=
  ⟨h.1, by rw [setCell_heap]; simp [h.2]⟩
theorem Blk.ev_set (h : Blk σ t w b T cs) (i : Nat) (v : Value) : Ev t (t + 1) σ w σ (w.setCell ⟨b, i, none⟩ v) :=
  ⟨rfl, rfl, rfl, fun _ => Nat.le_refl _, by simp [World.setCell], fun c hc hn => ⟨rfl, by
    rw [setCell_heap, if_neg]
    rintro rfl
    exact hn (by rw [h.1]; omega)⟩⟩
end

/-! ### kinds of elements -/
structure Kd (α : Type) where
  sz : Nat
  rep : Gh → World → α → List Value → Prop
  len : ∀ {σ w x cs}, rep σ w x cs → cs.length = sz
  one : ∀ {σ w x cs}, rep σ w x cs → ∀ u ∈ cs, u.oneCell' = true
  ev : ∀ {lo hi σ w σ' w' x cs}, rep σ w x cs → Ev lo hi σ w σ' w' → 1 ≤ lo → rep σ' w' x cs

def Kd.flat {α : Type} (sz : Nat) (enc : α → List Value) (hl : ∀ x, (enc x).length = sz) (h1 : ∀ x, ∀ u ∈ enc x, u.oneCell' = true) : Kd α where
  sz := sz
  rep := fun _ _ x cs => cs = enc x
  len := fun h => by rw [h]; exact hl _
  one := fun h => by rw [h]; exact h1 _
  ev := fun h _ _ => h

/-- A slice that is read. -/
def Rd {α : Type} (K : Kd α) (σ : Gh) (t : Nat) (w : World) (A : Option Addr) (xs : List α) : Prop :=
  0 < xs.length → ∃ ad, A = some ad ∧ ad.block < w.heap.size ∧ σ ad.block = t ∧ ∀ j (h : j < xs.length), ∃ cs, K.rep σ w xs[j] cs ∧ ∀ i u, cs[i]? = some u → w.cell? (ad.add (j * K.sz + i)) = some u

section
variable {α : Type} {K : Kd α} {σ σ' : Gh} {t lo hi : Nat} {w w' : World} {A : Option Addr} {xs : List α}
theorem Rd.nil : Rd K σ t w A [] := fun h => absurd h (by simp)
theorem Rd.ev (h : Rd K σ t w A xs) (e : Ev lo hi σ w σ' w') (ht : t < lo ∨ hi ≤ t) (hl : 1 ≤ lo) : Rd K σ' t w' A xs := fun hp => by
  obtain ⟨ad, h1, h2, h3, h4⟩ := h hp
  obtain ⟨k1, k2⟩ := e.keep ad.block h2 (by rw [h3]; omega)
  refine ⟨ad, h1, Nat.lt_of_lt_of_le h2 e.size, k1.trans h3, fun j hj => ?_⟩
  obtain ⟨cs, h5, h6⟩ := h4 j hj
  refine ⟨cs, K.ev h5 e hl, fun i u hu => ?_⟩
  rw [World.cell?_of_block (w := w) (by rw [add_block]; exact k2)]
  exact h6 i u hu
theorem Rd.at (h : Rd K σ t w A xs) (i : Int) (h0 : 0 ≤ i) (h1 : i < xs.length) (d : α) : ∃ ad cs, A = some ad ∧ ad.block < w.heap.size ∧ σ ad.block = t ∧ K.rep σ w (xs.getD i.toNat d) cs ∧
    ∀ j u, cs[j]? = some u → w.cell? (ad.add (i.toNat * K.sz + j)) = some u := by
  obtain ⟨ad, e1, e2, e3, e4⟩ := h (by omega)
  obtain ⟨cs, e5, e6⟩ := e4 i.toNat (by omega)
  refine ⟨ad, cs, e1, e2, e3, ?_, e6⟩
  rwa [List.getD_eq_getElem?_getD, List.getElem?_eq_getElem (by omega)]
theorem Rd.take (h : Rd K σ t w A xs) (n : Nat) : Rd K σ t w A (xs.take n) := fun hp => by
  have hl : (xs.take n).length ≤ xs.length := by simp only [List.length_take]; omega
  obtain ⟨ad, h1, h2, h3, h4⟩ := h (by omega)
  refine ⟨ad, h1, h2, h3, fun j hj => ?_⟩
  obtain ⟨cs, h5, h6⟩ := h4 j (by omega)
  exact ⟨cs, by simpa using h5, h6⟩
theorem Rd.drop (h : Rd K σ t w A xs) (n cap : Nat) (hc : xs.length ≤ cap) : Rd K σ t w (if cap = n then A else A.map (·.add (n * K.sz))) (xs.drop n) := fun hp => by
  have hl : (xs.drop n).length = xs.length - n := List.length_drop ..
  obtain ⟨ad, h1, h2, h3, h4⟩ := h (by omega)
  rw [if_neg (by omega)]
  refine ⟨ad.add (n * K.sz), by rw [h1]; rfl, by rw [add_block]; exact h2, by rw [add_block]; exact h3, fun j hj => ?_⟩
  obtain ⟨cs, h5, h6⟩ := h4 (n + j) (by omega)
  refine ⟨cs, by simpa using h5, fun i u hu => ?_⟩
  rw [add_add]
  have := h6 i u hu
  rw [Nat.add_mul] at this
  rwa [← Nat.add_assoc]
end

/-! ### rows of the call's own -/
def Reps {α : Type} (K : Kd α) (σ : Gh) (w : World) : List α → List Value → Prop
  | [], cs => cs = []
  | x :: xs, cs => ∃ c r, cs = c ++ r ∧ K.rep σ w x c ∧ Reps K σ w xs r

section
variable {α : Type} {K : Kd α} {σ σ' : Gh} {lo hi : Nat} {w w' : World}
theorem Reps.len : ∀ {xs : List α} {cs : List Value}, Reps K σ w xs cs → cs.length = xs.length * K.sz
  | [], _, h => by rw [show _ = [] from h]; simp
  | x :: xs, _, ⟨c, r, h, hx, hr⟩ => by
    have h1 := K.len hx
    have h2 := Reps.len hr
    rw [h, List.length_append, h1, h2, List.length_cons, Nat.add_mul]; omega
theorem Reps.one : ∀ {xs : List α} {cs : List Value}, Reps K σ w xs cs → ∀ u ∈ cs, u.oneCell' = true
  | [], _, h, u, hu => by rw [show _ = [] from h] at hu; cases hu
  | x :: xs, _, ⟨c, r, h, hx, hr⟩, u, hu => by
    rw [h, List.mem_append] at hu
    rcases hu with hu | hu
    · exact K.one hx u hu
    · exact Reps.one hr u hu
theorem Reps.ev : ∀ {xs : List α} {cs : List Value}, Reps K σ w xs cs → Ev lo hi σ w σ' w' → 1 ≤ lo → Reps K σ' w' xs cs
  | [], _, h, _, _ => h
  | x :: xs, _, ⟨c, r, h, hx, hr⟩, e, hl => ⟨c, r, h, K.ev hx e hl, Reps.ev hr e hl⟩
theorem Reps.append : ∀ {xs ys : List α} {cs ds : List Value}, Reps K σ w xs cs → Reps K σ w ys ds → Reps K σ w (xs ++ ys) (cs ++ ds)
  | [], _, _, _, h, k => by rw [show _ = [] from h]; exact k
  | x :: xs, _, _, ds, ⟨c, r, h, hx, hr⟩, k => ⟨c, r ++ ds, by rw [h, List.append_assoc], hx, Reps.append hr k⟩
theorem Reps.single {x : α} {c : List Value} (h : K.rep σ w x c) : Reps K σ w [x] c := ⟨c, [], by simp, h, rfl⟩
theorem Reps.get : ∀ {xs : List α} {cs : List Value}, Reps K σ w xs cs → ∀ j (h : j < xs.length), ∃ c, K.rep σ w xs[j] c ∧ ∀ i u, c[i]? = some u → cs[j * K.sz + i]? = some u
  | [], _, _, j, h => absurd h (by simp)
  | x :: xs, _, ⟨c, r, h, hx, hr⟩, 0, _ => ⟨c, hx, fun i u hu => by
      have hi := (List.getElem?_eq_some_iff.1 hu).1
      rw [h, Nat.zero_mul, Nat.zero_add, List.getElem?_append_left hi]; exact hu⟩
  | x :: xs, _, ⟨c, r, h, hx, hr⟩, j + 1, hj => by
    obtain ⟨c', h1, h2⟩ := Reps.get hr j (by simpa using hj)
    refine ⟨c', by simpa using h1, fun i u hu => ?_⟩
    have hc := K.len hx
    rw [h, List.getElem?_append_right (by rw [hc, Nat.add_mul]; omega), hc]
    rw [show (j + 1) * K.sz + i - K.sz = j * K.sz + i by rw [Nat.add_mul]; omega]
    exact h2 i u hu
end

def Own {α : Type} (K : Kd α) (e : TypeId) (σ : Gh) (t : Nat) (w : World) (v : Value) (xs : List α) : Prop :=
  ∃ cs, w.ownsRow 0 e K.sz v xs.length cs ∧ (∀ g, v.ownBlock = some g → σ g = t) ∧ Reps K σ w xs cs

section
variable {α : Type} {K : Kd α} {e : TypeId} {σ σ' : Gh} {t lo hi : Nat} {w w' : World} {v : Value} {xs : List α}
theorem Own.nil : Own K e σ t w (.slice none 0 0) ([] : List α) := ⟨[], ⟨by simp, .inl ⟨rfl, rfl⟩⟩, fun g h => by simp [Value.ownBlock] at h, rfl⟩
theorem Own.ev (h : Own K e σ t w v xs) (k : Ev lo hi σ w σ' w') (ht : t < lo ∨ hi ≤ t) (hl : 1 ≤ lo) : Own K e σ' t w' v xs := by
  obtain ⟨cs, h1, h2, h3⟩ := h
  rcases h1.2 with ⟨rfl, hn⟩ | ⟨g, cap, cur, rfl, hb, hh, hr⟩
  · exact ⟨cs, ⟨h1.1, .inl ⟨rfl, hn⟩⟩, fun g hg => by simp [Value.ownBlock] at hg, h3.ev k hl⟩
  · have hg := h2 g (by simp [Value.ownBlock])
    obtain ⟨k1, k2⟩ := k.keep g (Array.getElem?_eq_some_iff.1 hh).1 (by rw [hg]; omega)
    refine ⟨cs, ⟨h1.1, .inr ⟨g, cap, cur, rfl, hb, k2.trans hh, hr⟩⟩, fun g' hg' => ?_, h3.ev k hl⟩
    have : g = g' := by simpa [Value.ownBlock] using hg'
    subst this
    exact k1.trans hg
theorem Own.rd (h : Own K e σ t w v xs) : ∃ A c, v = .slice A xs.length c ∧ xs.length ≤ c ∧ c ≤ 9223372036854775807 ∧ Rd K σ t w A xs := by
  obtain ⟨cs, h1, h2, h3⟩ := h
  rcases h1.2 with ⟨rfl, hn⟩ | ⟨g, cap, cur, rfl, hb, hh, h4, h5, h6, h7⟩
  · have : xs = [] := List.eq_nil_of_length_eq_zero hn
    subst this
    exact ⟨none, 0, rfl, by simp, by omega, Rd.nil⟩
  · refine ⟨_, cap, rfl, h4, by simpa [maxLen] using h5, fun hp => ⟨_, rfl, (Array.getElem?_eq_some_iff.1 hh).1, h2 g (by simp [Value.ownBlock]), fun j hj => ?_⟩⟩
    obtain ⟨c, h8, h9⟩ := h3.get j hj
    refine ⟨c, h8, fun i u hu => ?_⟩
    have h10 := h9 i u hu
    rw [← h7] at h10
    rw [add_mk]
    simp only [World.cell?, hh]
    have h11 := (List.getElem?_eq_some_iff.1 h10).1
    rw [List.getElem?_take] at h10
    split at h10
    · simpa using h10
    · cases h10
/-- The row's tag is turned. -/
theorem Own.retag (h : Own K e σ t w v xs) (t' : Nat) (ht : 1 ≤ t) : ∃ σ', Ev t (t + 1) σ w σ' w ∧ Own K e σ' t' w v xs := by
  obtain ⟨cs, h1, h2, h3⟩ := h
  refine ⟨fun b => if σ b = t then t' else σ b, ?_, ?_⟩
  · exact ⟨rfl, rfl, rfl, fun _ => Nat.le_refl _, Nat.le_refl _, fun b hb hn => ⟨if_neg (by omega), rfl⟩⟩
  · refine ⟨cs, h1, fun g hg => by simp [h2 g hg], ?_⟩
    refine h3.ev (lo := t) (hi := t + 1) (σ' := fun b => if σ b = t then t' else σ b) (w' := w) ?_ ht
    exact ⟨rfl, rfl, rfl, fun _ => Nat.le_refl _, Nat.le_refl _, fun b hb hn => ⟨if_neg (by omega), rfl⟩⟩
theorem ev_grown {row : Option Nat} (hg : w.grownBy w' row) (hdr : w.drawn ≤ w'.drawn) (hr : ∀ g, row = some g → σ g = t) (s : Nat) : Ev t (t + 1) σ w (fun b => if b < w.heap.size then σ b else s) w' :=
  ⟨hg.os, hg.tape, hg.output, fun _ => hdr, hg.size, fun b hb hn => ⟨if_pos hb, hg.block b hb (fun e => hn (by rw [hr b e.symm]; omega))⟩⟩
end
end Go.Vk
