/- The walk's own words (a part of this session's library): worlds with tags, steps of a region, loops. No statement of its own. -/
import Derived.Tactics
import Derived.Orders
import Derived.Below
import Derived.WalkKit
namespace Go.Vk

/-! ### the count of draws never sinks -/
theorem except_bind {ε α β : Type} {x : Except ε α} {f : α → Except ε β} {r : β} (h : (x >>= f) = .ok r) : ∃ a, x = .ok a ∧ f a = .ok r := by
  cases x with
  | error e => simp [bind, Except.bind] at h
  | ok a => exact ⟨a, rfl, h⟩
def Pst (n : Nat) (x : Except String (World × List Addr)) : Prop := ∀ r, x = .ok r → r.1.drawn = n
theorem pst_bind {α : Type} {n : Nat} {x : Except String α} {f : α → Except String (World × List Addr)} (h : ∀ a, Pst n (f a)) : Pst n (x >>= f) := fun r hr => by
  obtain ⟨a, _, h2⟩ := except_bind hr
  exact h a r h2
theorem pst_throw {n : Nat} {e : String} : Pst n (MonadExcept.throw e) := fun r hr => by simp [MonadExcept.throw, throwThe, MonadExceptOf.throw] at hr
theorem viewStore_pst {p : Program} {w : World} {at_ : Addr} {u : TypeId} {k : Addr} {v : Value} {atomic : Bool} : Pst w.drawn (w.viewStore p at_ u k v atomic) := by
  unfold World.viewStore
  dsimp only
  repeat' (first | exact pst_throw | (refine pst_bind fun _ => ?_) | (show Pst _ (pure _); intro r hr; simp only [pure, Except.pure, Except.ok.injEq] at hr; rw [← hr]; done) | split)
theorem viewStore_drawn {p : Program} {w w' : World} {at_ : Addr} {u : TypeId} {k : Addr} {v : Value} {atomic : Bool} {l : List Addr} (h : w.viewStore p at_ u k v atomic = .ok (w', l)) : w'.drawn = w.drawn := viewStore_pst _ h
theorem farStore_drawn {p : Program} {w w' : World} {a : Addr} {v : Value} {atomic : Bool} {l : List Addr} (h : w.farStore p a v atomic = .ok (w', l)) : w'.drawn = w.drawn := by
  unfold World.farStore at h
  split at h
  · split at h
    · rename_i r hr
      obtain rfl := Except.ok.inj h
      exact viewStore_drawn hr
    · cases h
  · cases h
theorem ask_drawn {α : Type} : ∀ (x : Ask α) (w : World), w.drawn ≤ (w.ask x).2.drawn
  | .done a, w => by simp [World.ask]
  | .ask what range k, w => by
    simp only [World.ask]
    split
    · exact ask_drawn (k 0) w
    · exact Nat.le_trans (by simp) (ask_drawn (k _) _)
theorem sys_drawn (w : World) (c : Sys) : w.drawn ≤ (w.sys c).2.drawn := by
  unfold World.sys
  have := ask_drawn (Kernel.perform c w.os) w
  split
  · exact Nat.le_refl _
  · rename_i r os w' h
    rw [h] at this
    exact this
theorem run_drawn {P : Program} {α : Type} (x : Sem α) : ∀ {w w' : World} {a : α}, x.run P w = .ok a w' → w.drawn ≤ w'.drawn := by
  induction x with
  | pure a => intro w w' b h; simp only [Sem.run, Result.ok.injEq] at h; rw [h.2]; exact Nat.le_refl _
  | load m a k ih =>
    intro w w' b h
    simp only [Sem.run] at h
    split at h
    · exact ih _ h
    · split at h
      · exact ih _ h
      · cases h
  | store m a v k ih =>
    intro w w' b h
    have key : ∀ (r : Result _), (match w.cell? a with
        | some _ => if w.frozen? a then .halt (.unsupported (.unsafePointer "a write to bytes that a string shares")) w else k.run P (w.setCell a v)
        | none => match w.farStore P a v (m == .atomic) with
          | .ok (w, _) => k.run P w
          | .error h => .halt h w) = r → r = .ok b w' → w.drawn ≤ w'.drawn := by
      rintro r hr rfl
      split at hr
      · split at hr
        · cases hr
        · have := ih hr; exact this
      · split at hr
        · rename_i w1 l h1
          have := farStore_drawn h1
          rw [← this]; exact ih hr
        · cases hr
    cases v <;> first | (simp only [Sem.run] at h; exact key _ rfl h) | (simp [Sem.run] at h)
  | new o k ih => intro w w' b h; simp only [Sem.run] at h; have := ih _ h; exact this
  | shape r k ih => intro w w' b h; simp only [Sem.run] at h; exact ih _ h
  | freeze a n k ih =>
    intro w w' b h
    simp only [Sem.run] at h
    have := ih h
    unfold World.freeze at this
    split at this <;> exact this
  | frozen a k ih => intro w w' b h; simp only [Sem.run] at h; exact ih _ h
  | getObj r k ih =>
    intro w w' b h
    simp only [Sem.run] at h
    split at h
    · cases h
    · exact ih _ h
    · cases h
  | setObj r o k ih =>
    intro w w' b h
    simp only [Sem.run] at h
    split at h
    · cases h
    · have := ih h; exact this
    · cases h
  | choose q k ih =>
    intro w w' b h
    simp only [Sem.run] at h
    split at h
    · exact ih _ h
    · have := ih _ h; exact Nat.le_trans (Nat.le_succ _) this
  | sys c k ih => intro w w' b h; simp only [Sem.run] at h; exact Nat.le_trans (sys_drawn w c) (ih _ h)
  | program k ih => intro w w' b h; simp only [Sem.run] at h; exact ih _ h
  | mark m k ih => intro w w' b h; simp only [Sem.run] at h; exact ih h
  | halt h => intro w w' b h'; simp [Sem.run] at h'

/-- A tag for each block. -/
abbrev Gh := Nat → Nat

/-- Whether the count of draws is looked at. -/
class Dr where
  D : Prop
variable [Dr]

/-- From (σ, w) to (σ', w'): what bears a tag outside of [lo, hi) is as it was. -/
structure Ev (lo hi : Nat) (σ : Gh) (w : World) (σ' : Gh) (w' : World) : Prop where
  os : w'.os = w.os
  tape : w'.tape = w.tape
  output : w'.output = w.output
  drawn : Dr.D → w.drawn ≤ w'.drawn
  size : w.heap.size ≤ w'.heap.size
  keep : ∀ b, b < w.heap.size → ¬ (lo ≤ σ b ∧ σ b < hi) → σ' b = σ b ∧ w'.heap[b]? = w.heap[b]?

theorem Ev.refl (lo hi : Nat) (σ : Gh) (w : World) : Ev lo hi σ w σ w := ⟨rfl, rfl, rfl, fun _ => Nat.le_refl _, Nat.le_refl _, fun _ _ _ => ⟨rfl, rfl⟩⟩

theorem Ev.trans {lo hi : Nat} {σ σ1 σ2 : Gh} {w w1 w2 : World} (h : Ev lo hi σ w σ1 w1) (k : Ev lo hi σ1 w1 σ2 w2) : Ev lo hi σ w σ2 w2 :=
  ⟨k.os.trans h.os, k.tape.trans h.tape, k.output.trans h.output, fun d => Nat.le_trans (h.drawn d) (k.drawn d), Nat.le_trans h.size k.size, fun b hb hn => by
    obtain ⟨h1, h2⟩ := h.keep b hb hn
    obtain ⟨k1, k2⟩ := k.keep b (Nat.lt_of_lt_of_le hb h.size) (by rw [h1]; exact hn)
    exact ⟨k1.trans h1, k2.trans h2⟩⟩

theorem Ev.wide {lo hi lo' hi' : Nat} {σ σ1 : Gh} {w w1 : World} (h : Ev lo hi σ w σ1 w1) (h1 : lo' ≤ lo ∨ hi ≤ lo) (h2 : hi ≤ hi' ∨ hi ≤ lo) : Ev lo' hi' σ w σ1 w1 :=
  ⟨h.os, h.tape, h.output, h.drawn, h.size, fun b hb hn => h.keep b hb (by omega)⟩

/-- Behind (σ0, w0), whose tags are all below r: what is turned at tags from r on is no old one. -/
theorem Ev.loc {lo hi l2 h2 r : Nat} {σ0 σ σ' : Gh} {w0 w w' : World} (h : Ev lo hi σ0 w0 σ w) (hr : ∀ b, b < w0.heap.size → σ0 b < r) (k : Ev l2 h2 σ w σ' w') (hl : r ≤ l2 ∨ h2 ≤ l2) : Ev lo hi σ0 w0 σ' w' :=
  ⟨k.os.trans h.os, k.tape.trans h.tape, k.output.trans h.output, fun d => Nat.le_trans (h.drawn d) (k.drawn d), Nat.le_trans h.size k.size, fun b hb hn => by
    obtain ⟨h1, h2'⟩ := h.keep b hb hn
    have := hr b hb
    obtain ⟨k1, k2⟩ := k.keep b (Nat.lt_of_lt_of_le hb h.size) (by rw [h1]; omega)
    exact ⟨k1.trans h1, k2.trans h2'⟩⟩

theorem Ev.below {lo hi : Nat} {σ σ' : Gh} {w w' : World} (h : Ev lo hi σ w σ' w') (hl : ∀ b, b < w.heap.size → σ b < lo ∨ hi ≤ σ b) : RowKit.Below w.heap.size w w' :=
  ⟨h.os, h.tape, h.output, h.size, fun b hb => (h.keep b hb (by have := hl b hb; omega)).2⟩

omit [Dr] in
theorem Gh.fresh (σ : Gh) (m : Nat) : ∀ n, ∃ r, m ≤ r ∧ ∀ b, b < n → σ b < r
  | 0 => ⟨m, Nat.le_refl _, fun _ h => absurd h (by omega)⟩
  | n + 1 => by
    obtain ⟨r, h1, h2⟩ := Gh.fresh σ m n
    refine ⟨max r (σ n + 1), by omega, fun b hb => ?_⟩
    rcases Nat.lt_or_ge b n with h | h
    · have := h2 b h; omega
    · have : b = n := by omega
      subst this; omega

/-- A call that returns. -/
def Gives (P : Program) (f : FuncId) (args : Array Value) (lo hi : Nat) (σ : Gh) (w : World) (R : Value → Gh → World → Prop) : Prop :=
  Calls P f args w fun e w' => ∃ v σ', e = .returned v ∧ Ev lo hi σ w σ' w' ∧ R v σ' w'

section steps
variable {P : Program} {ops : Array Oper} {Q : Exit → Act → World → Prop}

/-- n operations, one behind the other, as they run. -/
def steps (P : Program) (ops : Array Oper) : Nat → List Oper → Act → World → Option (Act × World)
  | 0, _, a, w => some (a, w)
  | _ + 1, [], _, _ => none
  | n + 1, o :: l, a, w =>
    match Region.wanted o (yielded ops a.tmps) with
    | false => steps P ops n l (a.put o.dst undef) w
    | true =>
      match (execOp a.eval o).run P w with
      | .ok (.value v) w' => steps P ops n l (a.put o.dst v) w'
      | _ => none

omit [Dr] in
theorem wp_pure {a' : Act} {w w' : World} : ∀ (n : Nat) {l : List Oper} {a : Act}, steps P ops n l a w = some (a', w') → wpList P ops Q (l.drop n) a' w' → wpList P ops Q l a w
  | 0, l, a, h, k => by
    simp only [steps, Option.some.injEq, Prod.mk.injEq] at h
    obtain ⟨rfl, rfl⟩ := h
    exact k
  | n + 1, [], a, h, k => by simp [steps] at h
  | n + 1, o :: l, a, h, k => by
    simp only [steps] at h
    unfold wpList
    cases hw : Region.wanted o (yielded ops a.tmps) with
    | false =>
      simp only [hw] at h
      rw [if_neg (by simp)]
      exact wp_pure n h (by simpa using k)
    | true =>
      simp only [hw] at h
      rw [if_pos rfl]
      refine .inl ?_
      unfold Oper.wp
      cases hr : (execOp a.eval o).run P w with
      | halt x w1 => simp [hr] at h
      | ok nx w1 =>
        cases nx with
        | value v =>
          simp only [hr] at h
          rw [Oper.upon_value]
          exact wp_pure n h (by simpa using k)
        | _ => simp [hr] at h

omit [Dr] in
/-- A test: both ways. -/
theorem st_bool {o : Oper} {rest : List Oper} {a : Act} {w : World} {c : Bool} (hw : Region.wanted o (yielded ops a.tmps) = true)
    (hr : (execOp a.eval o).run P w = .ok (.value (.bool c)) w) (ht : c = true → wpList P ops Q rest (a.put o.dst (.bool true)) w)
    (hf : c = false → wpList P ops Q rest (a.put o.dst (.bool false)) w) : wpList P ops Q (o :: rest) a w := by
  unfold wpList
  rw [if_pos hw]
  refine .inl ?_
  unfold Oper.wp
  rw [hr, Oper.upon_value]
  cases c
  · exact hf rfl
  · exact ht rfl

omit [Dr] in
/-- One operation that runs to a value. -/
theorem st_val {o : Oper} {rest : List Oper} {a : Act} {w w' : World} {v : Value} (hw : Region.wanted o (yielded ops a.tmps) = true)
    (hr : (execOp a.eval o).run P w = .ok (.value v) w') (k : wpList P ops Q rest (a.put o.dst v) w') : wpList P ops Q (o :: rest) a w := by
  unfold wpList
  rw [if_pos hw]
  refine .inl ?_
  unfold Oper.wp
  rw [hr, Oper.upon_value]
  exact k

omit [Dr] in
/-- One operation that runs to nothing (a store). -/
theorem st_unit {o : Oper} {rest : List Oper} {a : Act} {w w' : World} (hw : Region.wanted o (yielded ops a.tmps) = true)
    (hr : (execOp a.eval o).run P w = .ok .skip w') (k : wpList P ops Q rest (a.put o.dst undef) w') : wpList P ops Q (o :: rest) a w := by
  unfold wpList
  rw [if_pos hw]
  refine .inl ?_
  unfold Oper.wp
  rw [hr, Oper.upon_skip]
  exact k

/-- A call. -/
theorem st_call {o : Oper} {rest : List Oper} {a : Act} {σ : Gh} {w : World} {f : FuncId} {args : Array Value} {lo hi : Nat} {R : Value → Gh → World → Prop}
    (hw : Region.wanted o (yielded ops a.tmps) = true) (hr : (execOp a.eval o).run P w = .ok (.enter f args) w) (hc : Gives P f args lo hi σ w R)
    (k : ∀ v σ' w', Ev lo hi σ w σ' w' → R v σ' w' → wpList P ops Q rest (a.put o.dst v) w') : wpList P ops Q (o :: rest) a w := by
  unfold wpList
  rw [if_pos hw]
  refine .inl ?_
  unfold Oper.wp
  rw [hr, Oper.upon_enter]
  refine Calls.mono hc ?_
  rintro e w' ⟨v, σ', rfl, he, hR⟩
  exact k v σ' w' he hR
end steps

/-! ### code -/
omit [Dr] in
theorem condT {α : Type} {c : Bool} {x y r : α} (h : c = true) (H : (bif c then x else y) = r) : x = r := by rw [h] at H; exact H
omit [Dr] in
theorem condF {α : Type} {c : Bool} {x y r : α} (h : c = false) (H : (bif c then x else y) = r) : y = r := by rw [h] at H; exact H
omit [Dr] in
theorem bindS {α β : Type} {x : Option α} {f : α → Option β} {r : β} (H : x.bind f = some r) : ∃ a, x = some a ∧ f a = some r := Option.bind_eq_some_iff.1 H

section code
variable {P : Program} {Q : Exit → Act → World → Prop} {a : Act} {w : World}
omit [Dr] in
theorem wp_seq_cut {x y : Code} (M : Act → World → Prop) (hx : x.wp P (Exit.then M Q) a w) (hy : ∀ a w, M a w → y.wp P Q a w) : (Code.seq x y).wp P Q a w :=
  wp_seq (Code.wp_mono (fun e a w q => by cases e <;> first | exact hy _ _ q | exact q) hx)

/-- A loop, once it is entered. -/
def LoopWp (P : Program) (c : Code) (Q : Exit → Act → World → Prop) (a : Act) (w : World) : Prop :=
  ∀ (b : Frame) (k : List Item) (cs : List Frame), ∃ e a' w', Q e a' w' ∧ Arrives P (lone (b.at a (.code c :: .inLoop c :: k)) cs w) b k cs e a' w'
omit [Dr] in
theorem wp_of_loopWp {c : Code} (h : LoopWp P c Q a w) : (Code.loop c).wp P Q a w := fun b k cs =>
  let ⟨e, a', w', q, r⟩ := h b k cs; ⟨e, a', w', q, .of_steps (.one step_loop) r⟩
omit [Dr] in
theorem loopWp_step {c : Code} (h : c.wp P (Exit.then (LoopWp P c Q) Q) a w) : LoopWp P c Q a w := by
  intro b k cs
  obtain ⟨e, a₁, w₁, hq, harr⟩ := h b (.inLoop c :: k) cs
  cases e with
  | normal =>
    obtain ⟨e₂, a₂, w₂, hq₂, harr₂⟩ := hq b k cs
    exact ⟨e₂, a₂, w₂, hq₂, .of_steps (Steps.trans harr (.one step_inLoop)) harr₂⟩
  | exit id => exact ⟨_, a₁, w₁, hq, .pass (x := .inLoop c) rfl (fun _ _ => .inl (by simp)) harr⟩
  | goto l => exact ⟨_, a₁, w₁, hq, .pass (x := .inLoop c) rfl (fun _ _ => .inl (by simp)) harr⟩
  | ret => exact ⟨_, a₁, w₁, hq, .pass (x := .inLoop c) rfl (fun _ _ => .inl (by simp)) harr⟩
  | panic ch => exact ⟨_, a₁, w₁, hq, .pass (x := .inLoop c) rfl (fun _ _ => .inl (by simp)) harr⟩
  | outgrown => exact ⟨_, a₁, w₁, hq, .pass (x := .inLoop c) rfl (fun _ _ => .inl (by simp)) harr⟩
end code

/-- A loop of plain values: so many rounds; none: it never ends. -/
def loopN {S B : Type} (f : S → Option (S ⊕ B)) : Nat → S → Option B
  | 0, _ => none
  | n + 1, s => (f s).bind fun o => match o with
    | .inl s' => loopN f n s'
    | .inr b => some b
open Classical in
noncomputable def loopO {S B : Type} (f : S → Option (S ⊕ B)) (s : S) : Option B :=
  if h : ∃ n, (loopN f n s).isSome = true then loopN f h.choose s else none

omit [Dr] in
theorem loopN_mono {S B : Type} (f : S → Option (S ⊕ B)) : ∀ n s b, loopN f n s = some b → ∀ m, n ≤ m → loopN f m s = some b
  | 0, s, b, h, m, _ => by simp [loopN] at h
  | n + 1, s, b, h, m, hm => by
    obtain ⟨m, rfl⟩ : ∃ k, m = k + 1 := ⟨m - 1, by omega⟩
    simp only [loopN] at h ⊢
    cases hf : f s with
    | none => simp [hf] at h
    | some o =>
      cases o with
      | inl s' => simp only [hf, Option.bind_some] at h ⊢; exact loopN_mono f n s' b h m (by omega)
      | inr b' => simpa [hf] using h
omit [Dr] in
theorem loopO_of {S B : Type} {f : S → Option (S ⊕ B)} {n : Nat} {s : S} {b : B} (h : loopN f n s = some b) : loopO f s = some b := by
  have hex : ∃ n, (loopN f n s).isSome = true := ⟨n, by simp [h]⟩
  unfold loopO
  rw [dif_pos hex]
  obtain ⟨b', hb'⟩ := Option.isSome_iff_exists.1 hex.choose_spec
  have h1 := loopN_mono f _ s b h (max n hex.choose) (by omega)
  have h2 := loopN_mono f _ s b' hb' (max n hex.choose) (by omega)
  rw [hb', ← h2, h1]
omit [Dr] in
theorem loopO_some {S B : Type} {f : S → Option (S ⊕ B)} {s : S} {b : B} (h : loopO f s = some b) : ∃ n, loopN f n s = some b := by
  unfold loopO at h
  split at h
  · exact ⟨_, h⟩
  · cases h
omit [Dr] in
/-- One round. -/
theorem loopO_eq {S B : Type} (f : S → Option (S ⊕ B)) (s : S) : loopO f s = (f s).bind fun o => match o with
    | .inl s' => loopO f s'
    | .inr b => some b := by
  cases hl : loopO f s with
  | some b =>
    obtain ⟨n, hn⟩ := loopO_some hl
    cases n with
    | zero => simp [loopN] at hn
    | succ n =>
      simp only [loopN] at hn
      cases hf : f s with
      | none => simp [hf] at hn
      | some o =>
        cases o with
        | inl s' => simp only [hf, Option.bind_some] at hn ⊢; exact (loopO_of hn).symm
        | inr b' => simpa [hf] using hn.symm
  | none =>
    cases hf : f s with
    | none => rfl
    | some o =>
      cases o with
      | inl s' =>
        simp only [Option.bind_some]
        cases hl' : loopO f s' with
        | none => rfl
        | some b =>
          obtain ⟨n, hn⟩ := loopO_some hl'
          have : loopN f (n + 1) s = some b := by simp [loopN, hf, hn]
          rw [loopO_of this] at hl
          cases hl
      | inr b =>
        have : loopN f 1 s = some b := by simp [loopN, hf]
        rw [loopO_of this] at hl
        cases hl

omit [Dr] in
theorem wp_loopO {P : Program} {S B : Type} (f : S → Option (S ⊕ B)) (Rel : S → Act → World → Prop) {c : Code} {Q : Exit → Act → World → Prop} {s0 : S} {b : B} {a : Act} {w : World} (hb : loopO f s0 = some b) (h0 : Rel s0 a w)
    (round : ∀ s a w, Rel s a w → ∀ o, f s = some o → c.wp P (Exit.then (fun a' w' => ∃ s', o = .inl s' ∧ Rel s' a' w') (fun e a' w' => ∃ b', o = .inr b' ∧ (b' = b → Q e a' w'))) a w) : (Code.loop c).wp P Q a w := by
  refine wp_of_loopWp ?_
  obtain ⟨n, hn⟩ := loopO_some hb
  clear hb
  induction n generalizing s0 a w with
  | zero => simp [loopN] at hn
  | succ n ih =>
    simp only [loopN] at hn
    cases hf : f s0 with
    | none => simp [hf] at hn
    | some o =>
      simp only [hf, Option.bind_some] at hn
      refine loopWp_step (Code.wp_mono ?_ (round s0 a w h0 o hf))
      intro e a' w' q
      cases e with
      | normal =>
        obtain ⟨s', rfl, hr⟩ := q
        exact ih hr hn
      | _ =>
        obtain ⟨b', rfl, q⟩ := q
        exact q (by simpa using hn)
end Go.Vk
