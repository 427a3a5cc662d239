/- The abstract machine, part 7: calls, one operation, a region in the order of the text. No statement of its own. -/
import Derived.Test.YtfhcockdlfidmaaAm17
import Derived.Test.YtfhcockdlfidmaaAm18
import Derived.Test.YtfhcockdlfidmaaAm15
import Derived.Test.YtfhcockdlfidmaaAm23
import Derived.Conc.MuLone
namespace Go.Am
open Go.Vk Go.RowKit
set_option linter.unusedVariables false
set_option linter.unusedSimpArgs false
variable [Dr]

/-- How a call is taken: its arguments, what is there; the result is handed on. -/
abbrev Hdl := ∀ (X : Type), List AV → List AB → (List AB → AV → Option X) → Option X
def HdlOk (P : Program) (f : FuncId) (h : Hdl) : Prop :=
  ∀ (X : Type) (args : List AV) (H : List AB) (k : List AB → AV → Option X) (x : X), h X args H k = some x →
    ∀ (E : Env) (σ : Gh) (τ : Nat → Nat) (β : List Value) (tm : List AV) (a : Act) (w : World) (us : List Value), Conc E σ τ β ⟨tm, H⟩ a w → RelL E σ w β args us →
      Calls P f us.toArray w (fun e w' => ∃ v σ', e = .returned v ∧ ∃ H' av τ' β', k H' av = some x ∧ HPres H H' ∧ (∃ s, β' = β ++ s) ∧ EvT (Rng E) σ w σ' w' ∧ Conc E σ' τ' β' ⟨tm, H'⟩ a w' ∧ Rel E σ' w' β' av v)
/-- A call that leaves what is there. -/
abbrev HdlV := ∀ (X : Type), List AV → List AB → (AV → Option X) → Option X
def HdlVOk (P : Program) (f : FuncId) (h : HdlV) : Prop :=
  ∀ (X : Type) (args : List AV) (H : List AB) (k : AV → Option X) (x : X), h X args H k = some x → ∃ av, k av = some x ∧
    ∀ (E : Env) (σ : Gh) (τ : Nat → Nat) (β : List Value) (tm : List AV) (a : Act) (w : World) (us : List Value), Conc E σ τ β ⟨tm, H⟩ a w → RelL E σ w β args us →
      Calls P f us.toArray w (fun e w' => ∃ v σ', e = .returned v ∧ ∃ τ' β', (∃ s, β' = β ++ s) ∧ EvT (Rng E) σ w σ' w' ∧ Conc E σ' τ' β' ⟨tm, H⟩ a w' ∧ Rel E σ' w' β' av v)
structure Hnd (P : Program) where
  f : FuncId
  h : Hdl
  ok : HdlOk P f h
  ent : ∀ args w, (callFunc f args).run P w = .ok (.enter f args) w
  v : Option HdlV := none
  vok : ∀ g, v = some g → HdlVOk P f g := by intro _ h; cases h
def findH {P : Program} (f : FuncId) : List (Hnd P) → Option (Hnd P)
  | [] => none
  | h :: l => match Nat.beq h.f f with
    | true => some h
    | false => findH f l
theorem findH_f {P : Program} {f : FuncId} : ∀ {l : List (Hnd P)} {h : Hnd P}, findH f l = some h → h.f = f
  | [], h, e => by simp [findH] at e
  | g :: l, h, e => by
    simp only [findH] at e
    split at e
    · rename_i hb
      obtain rfl := Option.some.inj e
      exact Nat.eq_of_beq_eq_true hb
    · exact findH_f e

/-- a choice; it is opened ahead of all else -/
abbrev bifA {α : Type} (c : Bool) (x y : α) : α :=
  match c with
  | true => x
  | false => y
def pickX (c x y : AV) : Option AV :=
  match c, x, y with
  | .val (.bool g), .val (.bool x), .val (.bool y) => some (.val (.bool (bif g then x else y)))
  | .val (.bool g), x, y => match g with
    | true => some x
    | false => some y
  | _, _, _ => none

/-- a function value: the function, what stands ahead of the arguments, what behind -/
def cloX : AV → Option (FuncId × List AV × List AV)
  | .clo (.func f) fs cs => some (f, fs, cs)
  | .val (.func (.func f) fs cs) => some (f, fs.toList.map .val, cs.toList.map .val)
  | _ => none
/-- a value that is not nil -/
def nnX : AV → Bool
  | .ptr _ _ => true
  | .ep .. => true
  | .rp .. => true
  | .clo (.func _) _ _ => true
  | .ifc .. => true
  | _ => false

/-- a division: whether there is an answer, and it -/
def divX (o : Oper) (ρ : Operand → AV) : Option (Bool × Value) :=
  match o.op with
  | .binOp .quo _ x y _ => match ρ x, ρ y with
    | .val (.int k a), .val (.int k' b) => match kindEq k k' with
      | some _ => some (b != 0, .int k (k.wrap (a.tdiv b)))
      | none => none
    | _, _ => none
  | .binOp .rem _ x y _ => match ρ x, ρ y with
    | .val (.int k a), .val (.int k' b) => match kindEq k k' with
      | some _ => some (b != 0, .int k (a.tmod b))
      | none => none
    | _, _ => none
  | .binOp .shl _ x y _ => match ρ x, ρ y with
    | .val (.int k a), .val (.int _ b) => some (decide (0 ≤ b), .int k (k.wrap (a * 2 ^ (min b.toNat k.bits))))
    | _, _ => none
  | .binOp .shr _ x y _ => match ρ x, ρ y with
    | .val (.int k a), .val (.int _ b) => some (decide (0 ≤ b), .int k (a.fdiv (2 ^ (min b.toNat k.bits))))
    | _, _ => none
  | .binOp .add _ x y _ => match ρ x, ρ y with
    | .val (.string a), .val (.string b) => some (decide (((a.size + b.size : Nat) : Int) ≤ 9223372036854775807), .string (a ++ b))
    | _, _ => none
  | _ => none
theorem divX_sound {P : Program} {E : Env} {σ : Gh} {τ : Nat → Nat} {w : World} {β : List Value} {tm : List AV} {H : List AB} {a : Act} {o : Oper} {v : Value} (hC : Conc E σ τ β ⟨tm, H⟩ a w) (h : divX o (aeval tm) = some (true, v)) : OpOut P E σ β tm a w o H (.val v) := by
  unfold divX at h
  split at h
  · rename_i t x y u ho
    split at h
    · rename_i k p k' q hx hy
      have h1 := aeval_rel hC x
      have h2 := aeval_rel hC y
      have h1 : Rel E σ w β (.val (.int k p)) (a.eval x) := hx ▸ h1
      have h2 : Rel E σ w β (.val (.int k' q)) (a.eval y) := hy ▸ h2
      simp only [Rel] at h1 h2
      split at h
      · rename_i pk _
        obtain ⟨hk⟩ := pk
        subst hk
        simp only [Option.some.injEq, Prod.mk.injEq, bne_iff_ne, ne_eq] at h
        obtain ⟨h3, rfl⟩ := h
        refine OpOut.same hC (v := .int k (k.wrap (p.tdiv q))) ?_ (by simp [Rel])
        simp [execOp, ho, h1, h2, eqGuard, binOp, Op.intDiv, h3]
      · cases h
    · cases h
  · rename_i t x y u ho
    split at h
    · rename_i k p k' q hx hy
      have h1 := aeval_rel hC x
      have h2 := aeval_rel hC y
      have h1 : Rel E σ w β (.val (.int k p)) (a.eval x) := hx ▸ h1
      have h2 : Rel E σ w β (.val (.int k' q)) (a.eval y) := hy ▸ h2
      simp only [Rel] at h1 h2
      split at h
      · rename_i pk _
        obtain ⟨hk⟩ := pk
        subst hk
        simp only [Option.some.injEq, Prod.mk.injEq, bne_iff_ne, ne_eq] at h
        obtain ⟨h3, rfl⟩ := h
        refine OpOut.same hC (v := .int k (p.tmod q)) ?_ (by simp [Rel])
        simp [execOp, ho, h1, h2, eqGuard, binOp, Op.intDiv, h3]
      · cases h
    · cases h
  · rename_i t x y u ho
    split at h
    · rename_i k p k' q hx hy
      have h1 := aeval_rel hC x
      have h2 := aeval_rel hC y
      have h1 : Rel E σ w β (.val (.int k p)) (a.eval x) := hx ▸ h1
      have h2 : Rel E σ w β (.val (.int k' q)) (a.eval y) := hy ▸ h2
      simp only [Rel] at h1 h2
      simp only [Option.some.injEq, Prod.mk.injEq, decide_eq_true_eq] at h
      obtain ⟨h3, rfl⟩ := h
      refine OpOut.same hC (v := .int k (k.wrap (p * 2 ^ (min q.toNat k.bits)))) ?_ (by simp [Rel])
      have h4 : ¬ q < 0 := by omega
      simp [execOp, ho, h1, h2, eqGuard, binOp, Op.shift, h4]
    · cases h
  · rename_i t x y u ho
    split at h
    · rename_i k p k' q hx hy
      have h1 := aeval_rel hC x
      have h2 := aeval_rel hC y
      have h1 : Rel E σ w β (.val (.int k p)) (a.eval x) := hx ▸ h1
      have h2 : Rel E σ w β (.val (.int k' q)) (a.eval y) := hy ▸ h2
      simp only [Rel] at h1 h2
      simp only [Option.some.injEq, Prod.mk.injEq, decide_eq_true_eq] at h
      obtain ⟨h3, rfl⟩ := h
      refine OpOut.same hC (v := .int k (p.fdiv (2 ^ (min q.toNat k.bits)))) ?_ (by simp [Rel])
      have h4 : ¬ q < 0 := by omega
      simp [execOp, ho, h1, h2, eqGuard, binOp, Op.shift, h4]
    · cases h
  · rename_i t x y u ho
    split at h
    · rename_i p q hx hy
      have h1 := aeval_rel hC x
      have h2 := aeval_rel hC y
      have h1 : Rel E σ w β (.val (.string p)) (a.eval x) := hx ▸ h1
      have h2 : Rel E σ w β (.val (.string q)) (a.eval y) := hy ▸ h2
      simp only [Rel] at h1 h2
      simp only [Option.some.injEq, Prod.mk.injEq, decide_eq_true_eq] at h
      obtain ⟨h3, rfl⟩ := h
      refine OpOut.same hC (v := .string (p ++ q)) ?_ (by simp [Rel])
      have hm : IntKind.i64.max = 9223372036854775807 := by decide
      have h4 : ¬ (((p.size + q.size : Nat) : Int) > IntKind.i64.max) := by rw [hm]; omega
      have hs : (Op.stringOp .add p q).run P w = .ok (.string (p ++ q)) w := by
        unfold Op.stringOp
        simp only [if_neg h4]
        rfl
      simp [execOp, ho, h1, h2, eqGuard, binOp, hs]
    · cases h
  · cases h

/-- One operation. -/
def opX (P : Program) (hs : List (Hnd P)) (tm : List AV) (H : List AB) (o : Oper) (X : Type) (k : List AB → AV → Option X) : Option X :=
  match o.op with
  | .move x => k H (aeval tm x)
  | .assign x => k H (aeval tm x)
  | .pick c x y => match pickX (aeval tm c) (aeval tm x) (aeval tm y) with
    | some v => k H v
    | none => none
  | .box T x => match cellsA (aeval tm x) with
    | some cs => k (H ++ [.cells T cs]) (.ptr H.length 0)
    | none => none
  | .alloc T => match zeroX P T with
    | some cs => k (H ++ [.cells T cs]) (.ptr H.length 0)
    | none => none
  | .load t x => match loadX P H t (aeval tm x) with
    | some v => k H v
    | none => none
  | .store t x y => match storeX P H t (aeval tm x) (aeval tm y) with
    | some H' => k H' .unk
    | none => match storeR P H t (aeval tm x) (aeval tm y) with
      | some H' => k H' .unk
      | none => none
  | .build t ps => match buildX P tm t ps.toList with
    | some v => k H v
    | none => none
  | .buildSlice t n ps => match rowX P tm H t n ps.toList with
    | some H' => k H' (.row H.length)
    | none => match row0X P H t n ps.toList with
      | some H' => k H' (.row H.length)
      | none => none
  | .extract x i => match extractX (aeval tm x) i with
    | some v => k H v
    | none => match pureX P o (aeval tm) with
      | some v => k H (.val v)
      | none => none
  | .fieldAddr t x f => match fieldX P t f (aeval tm x) with
    | some v => k H v
    | none => none
  | .indexAddr t x i => match indexX P H t (aeval tm x) (aeval tm i) with
    | some (c, v) => bifA c (k H v) none
    | none => none
  | .slice t x lo hi none => match cutX P tm t (aeval tm x) lo hi with
    | some (c, v) => bifA c (k H v) none
    | none => match cutS P tm t (aeval tm x) lo hi with
      | some (c, v) => bifA c (k H v) none
      | none => match cutR P tm H t (aeval tm x) lo hi with
        | some (c, H', v) => bifA c (k H' v) none
        | none => none
  | .convert src dst x => match b2sX P H src dst (aeval tm x) with
    | some v => k H v
    | none => match pureX P o (aeval tm) with
      | some v => k H (.val v)
      | none => none
  | .call ⟨.builtin .len, ⟨[x]⟩, ⟨[t]⟩⟩ => match lenX P H t (aeval tm x) with
    | some v => k H v
    | none => match mlenX P H t (aeval tm x) with
      | some v => k H v
      | none => match pureX P o (aeval tm) with
        | some v => k H (.val v)
        | none => none
  | .call ⟨.builtin .append, ⟨[x, y]⟩, ⟨[t, t']⟩⟩ => match Nat.beq t t', appendX P H t (aeval tm x) (aeval tm y) with
    | true, some (c, H') => bifA c (k H' (.row H.length)) none
    | _, _ => none
  | .call ⟨.value (.func f), args, _⟩ => match findH f hs with
    | some h => h.h X (args.toList.map (aeval tm)) H k
    | none => match pureX P o (aeval tm) with
      | some v => k H (.val v)
      | none => none
  | .call ⟨.value (.tmp t), args, _⟩ => match cloX (aeval tm (.tmp t)) with
    | some (f, fs, cs) => match findH f hs with
      | some h => h.h X (fs ++ args.toList.map (aeval tm) ++ cs) H k
      | none => none
    | none => none
  | .makeFunc fn first caps => k H (.clo fn (first.toList.map (aeval tm)) (caps.toList.map (aeval tm)))
  | .index .. => match indexV P o (aeval tm) with
    | some (c, v) => bifA c (k H (.val v)) none
    | none => match pureX P o (aeval tm) with
      | some v => k H (.val v)
      | none => none
  | .nilCheck x => match nnX (aeval tm x) with
    | true => k H (aeval tm x)
    | false => match pureX P o (aeval tm) with
      | some v => k H (.val v)
      | none => none
  | .binOp .. => match divX o (aeval tm) with
    | some (c, v) => bifA c (k H (.val v)) none
    | none => match eqX P o (aeval tm) with
      | some v => k H (.val v)
      | none => match nilX P o (aeval tm) with
        | some v => k H (.val v)
        | none => match pureX P o (aeval tm) with
          | some v => k H (.val v)
          | none => none
  | .lookup t x y ok => match lookupX P H t (aeval tm x) (aeval tm y) ok with
    | some v => k H v
    | none => match pureX P o (aeval tm) with
      | some v => k H (.val v)
      | none => none
  | .field t x f => match fieldV P t (aeval tm x) f with
    | some v => k H v
    | none => match pureX P o (aeval tm) with
      | some v => k H (.val v)
      | none => none
  | .mapUpdate t x y z => match updX P H t (aeval tm x) (aeval tm y) (aeval tm z) with
    | some H' => k H' .unk
    | none => none
  | .mapEntry t x y => match entryX P H t (aeval tm x) (aeval tm y) with
    | some (H', v) => k H' v
    | none => none
  | .entryStore t x y z => match estoreX P H t (aeval tm x) (aeval tm y) (aeval tm z) with
    | some (c, H') => bifA c (k H' .unk) none
    | none => none
  | .makeMap t none => match makeX P t with
    | some m => k (H ++ [.map m []]) (.map H.length)
    | none => none
  | .call ⟨.builtin .delete, ⟨[x, y]⟩, ⟨[t, t']⟩⟩ => match delX P H t (aeval tm x) (aeval tm y) with
    | some H' => k H' (.tup [])
    | none => none
  | _ => match pureX P o (aeval tm) with
    | some v => k H (.val v)
    | none => none

section
variable {P : Program} {E : Env} {σ σ1 : Gh} {τ : Nat → Nat} {w w1 : World} {β : List Value} {tm : List AV} {H : List AB} {a : Act} {o : Oper} {X : Type} {k : List AB → AV → Option X} {x : X} {hs : List (Hnd P)}
omit [Dr] in
theorem bif_some {c : Bool} {y : Option X} (h : bifA c y none = some x) : c = true ∧ y = some x := by
  cases c
  · cases h
  · exact ⟨rfl, h⟩
theorem args_rel (hC : Conc E σ τ β ⟨tm, H⟩ a w) : ∀ l : List Operand, RelL E σ w β (l.map (aeval tm)) (l.map a.eval)
  | [] => by simp [RelL]
  | x :: l => by simp only [List.map_cons, RelL]; exact ⟨_, _, rfl, aeval_rel hC x, args_rel hC l⟩
def OpSem (P : Program) (tm : List AV) (H : List AB) (o : Oper) (H' : List AB) (av : AV) : Prop :=
  ∀ (E : Env) (σ : Gh) (τ : Nat → Nat) (β : List Value) (a : Act) (w : World), Conc E σ τ β ⟨tm, H⟩ a w → OpOut P E σ β tm a w o H' av
theorem pure_out (h : (match pureX P o (aeval tm) with | some v => k H (.val v) | none => none) = some x) : ∃ H' av, k H' av = some x ∧ HPres H H' ∧ OpSem P tm H o H' av := by
  split at h
  · rename_i v hv
    exact ⟨_, _, h, .refl H, fun E σ τ β a w hC => pureX_sound hC hv⟩
  · cases h
omit [Dr] in
theorem storeX_pres {t : TypeId} {x v : AV} {H' : List AB} (h : storeX P H t x v = some H') : HPres H H' := by
  unfold storeX at h
  split at h
  · split at h
    · rename_i T cs ds hb hd
      split at h
      · simp only [Option.some.injEq] at h
        subst h
        exact .set hb (fun b => by simp)
      · cases h
    · cases h
  · cases h
omit [Dr] in
theorem rowX_pres {t : TypeId} {n : Nat} {ps : List (Nat × Operand)} {H' : List AB} (h : rowX P tm H t n ps = some H') : HPres H H' := by
  unfold rowX at h
  repeat' (split at h)
  all_goals first | (cases h; done) | skip
  simp only [Option.some.injEq] at h
  subst h
  exact .app _ _
omit [Dr] in
theorem appendX_pres {t : TypeId} {x y : AV} {c : Bool} {H' : List AB} (h : appendX P H t x y = some (c, H')) : HPres H H' := by
  unfold appendX at h
  split at h
  · split at h
    · split at h
      · split at h
        · split at h
          · simp only [Option.some.injEq, Prod.mk.injEq] at h
            obtain ⟨_, rfl⟩ := h
            exact .app _ _
          · split at h
            · rename_i r T' e' xs hr
              split at h
              · simp only [Option.some.injEq, Prod.mk.injEq] at h
                obtain ⟨_, rfl⟩ := h
                exact .trans (.set hr (fun b => by simp)) (.app _ _)
              · cases h
            · cases h
          · cases h
        · cases h
      · cases h
    · cases h
  · cases h
theorem pick_sound {c x y : Operand} {v : AV} (hC : Conc E σ τ β ⟨tm, H⟩ a w) (ho : o.op = .pick c x y) (h : pickX (aeval tm c) (aeval tm x) (aeval tm y) = some v) : OpOut P E σ β tm a w o H v := by
  have h1 := aeval_rel hC c
  have h2 := aeval_rel hC x
  have h3 := aeval_rel hC y
  unfold pickX at h
  split at h
  · rename_i g p q e1 e2 e3
    simp only [Option.some.injEq] at h
    subst h
    have h1 : Rel E σ w β (.val (.bool g)) (a.eval c) := e1 ▸ h1
    have h2 : Rel E σ w β (.val (.bool p)) (a.eval x) := e2 ▸ h2
    have h3 : Rel E σ w β (.val (.bool q)) (a.eval y) := e3 ▸ h3
    simp only [Rel] at h1 h2 h3
    refine OpOut.same hC (v := .bool (bif g then p else q)) ?_ (by simp [Rel])
    cases g <;> simp [execOp, ho, h1, h2, h3, asBool]
  · split at h
    · obtain rfl := Option.some.inj h
      have e1 : aeval tm c = .val (.bool true) := by assumption
      have h1 : Rel E σ w β (.val (.bool true)) (a.eval c) := e1 ▸ h1
      simp only [Rel] at h1
      exact OpOut.same hC (v := a.eval x) (by simp [execOp, ho, h1, asBool]) h2
    · obtain rfl := Option.some.inj h
      have e1 : aeval tm c = .val (.bool false) := by assumption
      have h1 : Rel E σ w β (.val (.bool false)) (a.eval c) := e1 ▸ h1
      simp only [Rel] at h1
      exact OpOut.same hC (v := a.eval y) (by simp [execOp, ho, h1, asBool]) h3
  · cases h
/-- What an operation does: some state, behind which it goes on. -/
def OpK (P : Program) (tm : List AV) (H : List AB) (o : Oper) {X : Type} (k : List AB → AV → Option X) (x : X) : Prop :=
  ∀ (E : Env) (σ : Gh) (τ : Nat → Nat) (β : List Value) (a : Act) (w : World), Conc E σ τ β ⟨tm, H⟩ a w →
    OpGives P a.eval o w (fun v σ' w' => ∃ H' av τ' β', k H' av = some x ∧ HPres H H' ∧ (∃ s, β' = β ++ s) ∧ EvT (Rng E) σ w σ' w' ∧ Conc E σ' τ' β' ⟨tm, H'⟩ a w' ∧ Rel E σ' w' β' av v)
theorem OpK.mk (h : ∃ H' av, k H' av = some x ∧ HPres H H' ∧ OpSem P tm H o H' av) : OpK P tm H o k x := by
  obtain ⟨H', av, h1, h2, h3⟩ := h
  intro E σ τ β a w hC
  refine OpGives.mono (h3 E σ τ β a w hC) ?_
  rintro v σ' w' ⟨τ', β', e0, e1, e2, e3⟩
  exact ⟨H', av, τ', β', h1, h2, e0, e1, e2, e3⟩
/-- A call of a function that is walked. -/
theorem call_ok {hd : Hnd P} {f : FuncId} {fs cs : List AV} {args : Array Operand} {tys : Array TypeId} {g : Operand} (hff : hd.f = f) (h : hd.h X (fs ++ args.toList.map (aeval tm) ++ cs) H k = some x) (ho : o.op = .call ⟨.value g, args, tys⟩)
    (hr : ∀ (E : Env) (σ : Gh) (τ : Nat → Nat) (β : List Value) (a : Act) (w : World), Conc E σ τ β ⟨tm, H⟩ a w → ∃ vs us, a.eval g = .func (.func f) (List.toArray vs) (List.toArray us) ∧ RelL E σ w β fs vs ∧ RelL E σ w β cs us) : OpK P tm H o k x := by
  intro E σ τ β a w hC
  obtain ⟨vs, us, h1, h2, h3⟩ := hr E σ τ β a w hC
  have hc := hd.ok X _ H k x h E σ τ β tm a w _ hC (RelL.append (RelL.append h2 (args_rel hC args.toList)) h3)
  have hrun : (execOp a.eval o).run P w = .ok (.enter f (vs ++ args.toList.map a.eval ++ us).toArray) w := by
    have := hd.ent (vs ++ args.toList.map a.eval ++ us).toArray w
    rw [hff] at this
    have ha : vs.toArray ++ args.map a.eval ++ us.toArray = (vs ++ args.toList.map a.eval ++ us).toArray := by
      rw [← List.append_toArray, ← List.append_toArray, ← Array.toList_map]
    simp only [execOp, ho, resolve, h1, Deferred.ofValue, Sem.run_bind, Sem.run_pure, Result.andThen_ok, invoke, ha]
    simpa using this
  unfold OpGives
  rw [hrun]
  rw [hff] at hc
  exact hc
theorem opX_sound (h : opX P hs tm H o X k = some x) : OpK P tm H o k x := by
  unfold opX at h
  split at h
  · rename_i y ho; exact OpK.mk ⟨_, _, h, .refl H, fun E σ τ β a w hC => move_sound hC (.inl ho)⟩
  · rename_i y ho; exact OpK.mk ⟨_, _, h, .refl H, fun E σ τ β a w hC => move_sound hC (.inr ho)⟩
  · rename_i c y z ho
    split at h
    · rename_i v hv; exact OpK.mk ⟨_, _, h, .refl H, fun E σ τ β a w hC => pick_sound hC ho hv⟩
    · cases h
  · rename_i T y ho
    split at h
    · rename_i v hv; exact OpK.mk ⟨_, _, h, .app _ _, fun E σ τ β a w hC => box_sound hC ho hv⟩
    · cases h
  · rename_i T ho
    split at h
    · rename_i v hv; exact OpK.mk ⟨_, _, h, .app _ _, fun E σ τ β a w hC => alloc_sound hC ho hv⟩
    · cases h
  · rename_i T y ho
    split at h
    · rename_i v hv; exact OpK.mk ⟨_, _, h, .refl H, fun E σ τ β a w hC => load_sound hC ho hv⟩
    · cases h
  · rename_i T y z ho
    split at h
    · rename_i v hv; exact OpK.mk ⟨_, _, h, storeX_pres hv, fun E σ τ β a w hC => store_sound hC ho hv⟩
    · split at h
      · rename_i v hv; exact OpK.mk ⟨_, _, h, storeR_pres hv, fun E σ τ β a w hC => storeR_sound hC ho hv⟩
      · cases h
  · rename_i T ps ho
    split at h
    · rename_i v hv; exact OpK.mk ⟨_, _, h, .refl H, fun E σ τ β a w hC => build_sound hC ho hv⟩
    · cases h
  · rename_i T n ps ho
    split at h
    · rename_i v hv; exact OpK.mk ⟨_, _, h, rowX_pres hv, fun E σ τ β a w hC => row_sound hC ho hv⟩
    · split at h
      · rename_i v hv
        have hp : HPres H v := by
          unfold row0X at hv
          repeat' (split at hv)
          all_goals first | (cases hv; done) | skip
          simp only [Option.some.injEq] at hv
          subst hv
          exact .app _ _
        exact OpK.mk ⟨_, _, h, hp, fun E σ τ β a w hC => row0_sound hC ho hv⟩
      · cases h
  · rename_i y i ho
    split at h
    · rename_i v hv; exact OpK.mk ⟨_, _, h, .refl H, fun E σ τ β a w hC => extract_sound hC ho hv⟩
    · exact OpK.mk (pure_out h)
  · rename_i T y f ho
    split at h
    · rename_i v hv; exact OpK.mk ⟨_, _, h, .refl H, fun E σ τ β a w hC => fieldAddr_sound hC ho hv⟩
    · cases h
  · rename_i T y i ho
    split at h
    · rename_i c v hv
      obtain ⟨rfl, h⟩ := bif_some h
      exact OpK.mk ⟨_, _, h, .refl H, fun E σ τ β a w hC => index_sound hC ho hv⟩
    · cases h
  · rename_i T y lo hi ho
    split at h
    · rename_i c v hv
      obtain ⟨rfl, h⟩ := bif_some h
      exact OpK.mk ⟨_, _, h, .refl H, fun E σ τ β a w hC => cut_sound hC ho hv⟩
    · split at h
      · rename_i c v hv
        obtain ⟨rfl, h⟩ := bif_some h
        exact OpK.mk ⟨_, _, h, .refl H, fun E σ τ β a w hC => cutS_sound hC ho hv⟩
      · split at h
        · rename_i c H' v hv
          obtain ⟨rfl, h⟩ := bif_some h
          exact OpK.mk ⟨_, _, h, cutR_pres hv, fun E σ τ β a w hC => cutR_sound hC ho hv⟩
        · cases h
  · rename_i src dst y ho
    split at h
    · rename_i v hv; exact OpK.mk ⟨_, _, h, .refl H, fun E σ τ β a w hC => b2s_sound hC ho hv⟩
    · exact OpK.mk (pure_out h)
  · rename_i y t ho
    split at h
    · rename_i v hv; exact OpK.mk ⟨_, _, h, .refl H, fun E σ τ β a w hC => len_sound hC ho hv⟩
    · split at h
      · rename_i v hv; exact OpK.mk ⟨_, _, h, .refl H, fun E σ τ β a w hC => mlen_sound hC ho hv⟩
      · exact OpK.mk (pure_out h)
  · rename_i y z t t' ho
    split at h
    · rename_i c H' ht hv
      obtain rfl := Nat.eq_of_beq_eq_true ht
      obtain ⟨rfl, h⟩ := bif_some h
      exact OpK.mk ⟨_, _, h, appendX_pres hv, fun E σ τ β a w hC => append_sound hC ho hv⟩
    · cases h
  · rename_i f args tys ho
    split at h
    · rename_i hd hf
      refine call_ok (fs := []) (cs := []) (findH_f hf) (by simpa using h) ho (fun E σ τ β a w hC => ⟨[], [], rfl, by simp [RelL], by simp [RelL]⟩)
    · exact OpK.mk (pure_out h)
  · rename_i t args tys ho
    split at h
    · rename_i f fs cs hclo
      split at h
      · rename_i hd hf
        refine call_ok (findH_f hf) h ho (fun E σ τ β a w hC => ?_)
        have hx := aeval_rel hC (.tmp t)
        unfold cloX at hclo
        split at hclo
        · rename_i f' fs' cs' he
          simp only [Option.some.injEq, Prod.mk.injEq] at hclo
          obtain ⟨rfl, rfl, rfl⟩ := hclo
          have hx : Rel E σ w β (.clo (.func f') fs' cs') (a.eval (.tmp t)) := he ▸ hx
          simp only [Rel] at hx
          exact hx
        · rename_i f' fs' cs' he
          simp only [Option.some.injEq, Prod.mk.injEq] at hclo
          obtain ⟨rfl, rfl, rfl⟩ := hclo
          have hx : Rel E σ w β (.val (.func (.func f') fs' cs')) (a.eval (.tmp t)) := he ▸ hx
          simp only [Rel] at hx
          exact ⟨fs'.toList, cs'.toList, by simpa using hx, relL_vals _, relL_vals _⟩
        · cases hclo
      · cases h
    · cases h
  · rename_i fn first caps ho
    refine OpK.mk ⟨_, _, h, .refl H, fun E σ τ β a w hC => OpOut.same hC (v := .func fn (first.map a.eval) (caps.map a.eval)) (by simp [execOp, ho, Instr.makeFunc]) ?_⟩
    simp only [Rel]
    exact ⟨first.toList.map a.eval, caps.toList.map a.eval, by rw [← Array.toList_map, ← Array.toList_map], args_rel hC _, args_rel hC _⟩
  · split at h
    · rename_i c v hv
      obtain ⟨rfl, h⟩ := bif_some h
      exact OpK.mk ⟨_, _, h, .refl H, fun E σ τ β a w hC => indexV_sound hC hv⟩
    · exact OpK.mk (pure_out h)
  · rename_i y ho
    split at h
    · rename_i hn
      refine OpK.mk ⟨_, _, h, .refl H, fun E σ τ β a w hC => ?_⟩
      have hx := aeval_rel hC y
      refine OpOut.same hC (v := a.eval y) ?_ hx
      cases hv : aeval tm y with
      | ptr b off =>
        have hx : Rel E σ w β (.ptr b off) (a.eval y) := hv ▸ hx
        simp only [Rel] at hx
        obtain ⟨n, _, e⟩ := hx
        simp [execOp, ho, e]
      | ep p T xs i off =>
        have hx : Rel E σ w β (.ep p T xs i off) (a.eval y) := hv ▸ hx
        simp only [Rel] at hx
        obtain ⟨ad, t, e, _⟩ := hx
        simp [execOp, ho, e]
      | rp r sz i off =>
        have hx : Rel E σ w β (.rp r sz i off) (a.eval y) := hv ▸ hx
        simp only [Rel] at hx
        obtain ⟨ad, n, c, _, _, e⟩ := hx
        simp [execOp, ho, e]
      | clo fn fs cs =>
        rw [hv] at hn
        cases fn <;> try (simp [nnX] at hn; done)
        rename_i f
        have hx : Rel E σ w β (.clo (.func f) fs cs) (a.eval y) := hv ▸ hx
        simp only [Rel] at hx
        obtain ⟨vs, us, e, _⟩ := hx
        simp [execOp, ho, e]
      | ifc t z =>
        have hx : Rel E σ w β (.ifc t z) (a.eval y) := hv ▸ hx
        simp only [Rel] at hx
        obtain ⟨v, e, _⟩ := hx
        simp [execOp, ho, e]
      | _ => rw [hv] at hn; simp [nnX] at hn
    · exact OpK.mk (pure_out h)
  · split at h
    · rename_i c v hv
      obtain ⟨rfl, h⟩ := bif_some h
      exact OpK.mk ⟨_, _, h, .refl H, fun E σ τ β a w hC => divX_sound hC hv⟩
    · split at h
      · rename_i v hv; exact OpK.mk ⟨_, _, h, .refl H, fun E σ τ β a w hC => eqX_sound hC hv⟩
      · split at h
        · rename_i v hv; exact OpK.mk ⟨_, _, h, .refl H, fun E σ τ β a w hC => nilX_sound hC hv⟩
        · exact OpK.mk (pure_out h)
  · rename_i t y z ok ho
    split at h
    · rename_i v hv; exact OpK.mk ⟨_, _, h, .refl H, fun E σ τ β a w hC => lookup_sound hC ho hv⟩
    · exact OpK.mk (pure_out h)
  · rename_i t y f ho
    split at h
    · rename_i v hv; exact OpK.mk ⟨_, _, h, .refl H, fun E σ τ β a w hC => fieldV_sound hC ho hv⟩
    · exact OpK.mk (pure_out h)
  · rename_i t y z v ho
    split at h
    · rename_i H' hv; exact OpK.mk ⟨_, _, h, updX_pres hv, fun E σ τ β a w hC => upd_sound hC ho hv⟩
    · cases h
  · rename_i t y z ho
    split at h
    · rename_i H' v hv; exact OpK.mk ⟨_, _, h, entryX_pres hv, fun E σ τ β a w hC => entry_sound hC ho hv⟩
    · cases h
  · rename_i t y z v ho
    split at h
    · rename_i c H' hv
      obtain ⟨rfl, h⟩ := bif_some h
      exact OpK.mk ⟨_, _, h, estoreX_pres hv, fun E σ τ β a w hC => estore_sound hC ho hv⟩
    · cases h
  · rename_i t ho
    split at h
    · rename_i m hm; exact OpK.mk ⟨_, _, h, .app _ _, fun E σ τ β a w hC => make_sound hC ho hm⟩
    · cases h
  · rename_i y z t t' ho
    split at h
    · rename_i H' hv; exact OpK.mk ⟨_, _, h, delX_pres hv, fun E σ τ β a w hC => del_sound hC ho hv⟩
    · cases h
  · exact OpK.mk (pure_out h)

/-! ### a region in the order of the text -/
def putS (tm : List AV) (d : Option Tmp) (v : AV) : List AV :=
  match d with
  | some d => tm.set d v
  | none => tm
theorem Conc.putS {v : Value} {av : AV} (hC : Conc E σ τ β ⟨tm, H⟩ a w) (d : Option Tmp) (h : Rel E σ w β av v) : Conc E σ τ β ⟨putS tm d av, H⟩ (a.put d v) w := by
  cases d with
  | none => exact hC
  | some d =>
    refine ⟨hC.defers, ?_, hC.size, hC.heap, hC.apart, hC.inj⟩
    simp only [putS, Act.put]
    rw [Array.toList_setIfInBounds]
    exact RelL.set hC.tmps d h
def guardX (ops : List Oper) (tm : List AV) (j : Nat) : Option (Tmp × Bool) :=
  match (ops[j]?).bind (·.dst) with
  | some d => match tm[d]? with
    | some (.val (.bool c)) => some (d, c)
    | _ => none
  | none => none
theorem guardX_sound {ops : List Oper} {j : Nat} {d : Tmp} {c : Bool} (hC : Conc E σ τ β ⟨tm, H⟩ a w) (h : guardX ops tm j = some (d, c)) : yielded ops.toArray a.tmps j = some c ∧ a.tmps.toList[d]? = some (.bool c) := by
  unfold guardX at h
  split at h
  · rename_i d' hd
    split at h
    · rename_i c' ht
      simp only [Option.some.injEq, Prod.mk.injEq] at h
      obtain ⟨rfl, rfl⟩ := h
      obtain ⟨u, h1, h2⟩ := RelL.get hC.tmps ht
      simp only [Rel] at h2
      subst h2
      refine ⟨?_, h1⟩
      rw [Array.getElem?_toList] at h1
      unfold yielded
      rw [List.getElem?_toArray, hd]
      simp only [Option.bind_some, h1]
    · cases h
  · cases h
/-- is it what is wanted? -/
def wb (c want : Bool) : Bool :=
  match want with
  | true => c
  | false => !c
omit [Dr] in
theorem wb_eq (c want : Bool) : wb c want = (c == want) := by cases c <;> cases want <;> rfl
omit [Dr] in
theorem set_same' {α : Type} {l : List α} {i : Nat} {x : α} (h : l[i]? = some x) : l.set i x = l := by
  obtain ⟨hi, rfl⟩ := List.getElem?_eq_some_iff.1 h
  exact List.set_getElem_self hi
theorem Conc.known {d : Tmp} {c : Bool} (hC : Conc E σ τ β ⟨tm, H⟩ a w) (hu : a.tmps.toList[d]? = some (.bool c)) : Conc E σ τ β ⟨tm.set d (.val (.bool c)), H⟩ a w :=
  ⟨hC.defers, by have := RelL.set hC.tmps d (x := .val (.bool c)) (u := .bool c) (by simp [Rel]); rw [set_same' hu] at this; exact this, hC.size, hC.heap, hC.apart, hC.inj⟩
/-- A guard that was not come to. -/
def deadG (ops : List Oper) (tm : List AV) (j : Nat) : Bool :=
  match (ops[j]?).bind (·.dst) with
  | some d => match tm[d]? with
    | some (.val (.bool _)) => false
    | some (.val _) => true
    | _ => false
  | none => false
theorem deadG_sound {ops : List Oper} {j : Nat} (hC : Conc E σ τ β ⟨tm, H⟩ a w) (h : deadG ops tm j = true) : yielded ops.toArray a.tmps j = none := by
  unfold deadG at h
  split at h
  · rename_i d hd
    split at h
    · cases h
    · rename_i v hnb ht
      obtain ⟨u, h1, h2⟩ := RelL.get hC.tmps ht
      simp only [Rel] at h2
      subst h2
      have h1' : a.tmps[d]? = some u := by simpa using h1
      unfold yielded
      have hd' : ((ops.toArray)[j]?).bind (·.dst) = some d := by simpa using hd
      rw [hd']
      simp only [Option.bind_some, h1']
      split
      · rename_i b hb
        obtain rfl := Option.some.inj hb
        exact (hnb b rfl).elim
      · rfl
    · cases h
  · cases h
def regX (P : Program) (hs : List (Hnd P)) (ops : List Oper) (X : Type) : List Oper → List AV → List AB → (List AV → List AB → Option X) → Option X
  | [], tm, H, k => k tm H
  | o :: l, tm, H, k => match o.guard with
    | none => opX P hs tm H o X fun H' v => regX P hs ops X l (putS tm o.dst v) H' k
    | some (j, want) => match guardX ops tm j with
      | some (d, c) => bifA (wb c want) (opX P hs (tm.set d (.val (.bool want))) H o X fun H' v => regX P hs ops X l (putS (tm.set d (.val (.bool want))) o.dst v) H' k)
        (regX P hs ops X l (putS (tm.set d (.val (.bool (!want)))) o.dst (.val undef)) H k)
      | none => match deadG ops tm j with
        | true => regX P hs ops X l (putS tm o.dst (.val undef)) H k
        | false => none
end
section
variable {P : Program} {E : Env} {X : Type} {x : X} {hs : List (Hnd P)}
/-- the slots that operations set, or know better -/
def dsts (ops : List Oper) : List Oper → List Tmp
  | [] => []
  | o :: l => (match o.dst with | some d => [d] | none => []) ++ (match o.guard with | some (j, _) => (match (ops[j]?).bind (·.dst) with | some d => [d] | none => []) | none => []) ++ dsts ops l
/-- Slots beside those are as they were. -/
def TPres (ds : List Tmp) (tm tm' : List AV) : Prop := tm'.length = tm.length ∧ ∀ t, t ∉ ds → tm'[t]? = tm[t]?
omit [Dr] in
theorem TPres.refl {ds : List Tmp} {tm : List AV} : TPres ds tm tm := ⟨rfl, fun _ _ => rfl⟩
omit [Dr] in
theorem TPres.trans {ds : List Tmp} {a b c : List AV} (h : TPres ds a b) (k : TPres ds b c) : TPres ds a c := ⟨k.1.trans h.1, fun t ht => (k.2 t ht).trans (h.2 t ht)⟩
omit [Dr] in
theorem TPres.mono {ds ds' : List Tmp} {a b : List AV} (h : TPres ds a b) (hs : ∀ t, t ∈ ds → t ∈ ds') : TPres ds' a b := ⟨h.1, fun t ht => h.2 t (fun hh => ht (hs t hh))⟩
omit [Dr] in
theorem TPres.put {ds : List Tmp} {tm : List AV} {d : Option Tmp} {v : AV} (h : ∀ t, d = some t → t ∈ ds) : TPres ds tm (putS tm d v) := by
  cases d with
  | none => exact .refl
  | some d =>
    refine ⟨by simp [putS], fun t ht => ?_⟩
    simp only [putS]
    rw [List.getElem?_set]
    by_cases hd : d = t
    · subst hd; exact absurd (h _ rfl) ht
    · rw [if_neg hd]
omit [Dr] in
theorem dsts_mem {ops : List Oper} {o : Oper} {l : List Oper} {t : Tmp} (h : o.dst = some t ∨ t ∈ dsts ops l) : t ∈ dsts ops (o :: l) := by
  unfold dsts
  rcases h with h | h
  · rw [h]; simp
  · simp [h]
omit [Dr] in
theorem dsts_guard {ops : List Oper} {o : Oper} {l : List Oper} {j : Nat} {want c : Bool} {d : Tmp} {tm : List AV} (hg : o.guard = some (j, want)) (h : guardX ops tm j = some (d, c)) : d ∈ dsts ops (o :: l) := by
  unfold guardX at h
  split at h
  · rename_i d' hd
    split at h
    · simp only [Option.some.injEq, Prod.mk.injEq] at h
      obtain ⟨rfl, _⟩ := h
      unfold dsts
      rw [hg]
      simp [hd]
    · cases h
  · cases h
/-- From one state on to another. -/
structure Went (E : Env) (ds : List Tmp) (σ : Gh) (β : List Value) (w : World) (tm : List AV) (H : List AB) (σ' : Gh) (β' : List Value) (w' : World) (tm' : List AV) (H' : List AB) : Prop where
  ev : EvT (Rng E) σ w σ' w'
  more : ∃ s, β' = β ++ s
  heap : HPres H H'
  tmps : TPres ds tm tm'
theorem Went.trans {ds : List Tmp} {σ σ1 σ2 : Gh} {β β1 β2 : List Value} {w w1 w2 : World} {tm tm1 tm2 : List AV} {H H1 H2 : List AB} (h : Went E ds σ β w tm H σ1 β1 w1 tm1 H1) (k : Went E ds σ1 β1 w1 tm1 H1 σ2 β2 w2 tm2 H2) : Went E ds σ β w tm H σ2 β2 w2 tm2 H2 :=
  ⟨h.ev.trans k.ev, by obtain ⟨s, rfl⟩ := h.more; obtain ⟨s', rfl⟩ := k.more; exact ⟨s ++ s', by simp⟩, h.heap.trans k.heap, h.tmps.trans k.tmps⟩
theorem Went.refl {ds : List Tmp} {σ : Gh} {β : List Value} {w : World} {tm : List AV} {H : List AB} : Went E ds σ β w tm H σ β w tm H := ⟨.refl, ⟨[], by simp⟩, .refl H, .refl⟩
theorem Went.mono {ds ds' : List Tmp} {σ σ1 : Gh} {β β1 : List Value} {w w1 : World} {tm tm1 : List AV} {H H1 : List AB} (h : Went E ds σ β w tm H σ1 β1 w1 tm1 H1) (hs : ∀ t, t ∈ ds → t ∈ ds') : Went E ds' σ β w tm H σ1 β1 w1 tm1 H1 := ⟨h.ev, h.more, h.heap, h.tmps.mono hs⟩

theorem regX_sound {ops : List Oper} {Q : Exit → Act → World → Prop} : ∀ (l : List Oper) {tm : List AV} {H : List AB} {σ : Gh} {τ : Nat → Nat} {β : List Value} {a : Act} {w : World} {k : List AV → List AB → Option X}, regX P hs ops X l tm H k = some x → Conc E σ τ β ⟨tm, H⟩ a w →
    (∀ tm' H' σ' τ' β' a' w', k tm' H' = some x → Went E (dsts ops l) σ β w tm H σ' β' w' tm' H' → Conc E σ' τ' β' ⟨tm', H'⟩ a' w' → Q .normal a' w') → wpList P ops.toArray Q l a w
  | [], tm, H, σ, τ, β, a, w, k, h, hC, hQ => hQ tm H σ τ β a w h .refl hC
  | o :: l, tm, H, σ, τ, β, a, w, k, h, hC, hQ => by
    have hrun : ∀ tm1, TPres (dsts ops (o :: l)) tm tm1 → Conc E σ τ β ⟨tm1, H⟩ a w → Region.wanted o (yielded ops.toArray a.tmps) = true → (opX P hs tm1 H o X fun H' v => regX P hs ops X l (putS tm1 o.dst v) H' k) = some x → wpList P ops.toArray Q (o :: l) a w := by
      intro tm1 hT hC hw h
      unfold wpList
      rw [if_pos hw]
      refine .inl (OpGives.wp (opX_sound h E σ τ β a w hC) ?_)
      rintro v σ' w' ⟨H', av, τ', β', h1, hp, e0, e1, e2, e3⟩
      exact regX_sound l h1 (Conc.putS e2 o.dst e3) (fun tm' H' σ'' τ'' β'' a' w'' hk he hc => hQ tm' H' σ'' τ'' β'' a' w'' hk
        (Went.trans ⟨e1, e0, hp, hT.trans (TPres.put (fun t ht => dsts_mem (.inl ht)))⟩ (he.mono (fun t ht => dsts_mem (.inr ht)))) hc)
    unfold regX at h
    split at h
    · rename_i hg
      exact hrun tm .refl hC (by simp [Region.wanted, hg]) h
    · rename_i j want hg
      split at h
      · rename_i d c hc
        obtain ⟨hy, hu⟩ := guardX_sound hC hc
        have hT : ∀ b, TPres (dsts ops (o :: l)) tm (tm.set d (.val (.bool b))) := fun b => TPres.put (d := some d) (fun t ht => by injection ht with ht; subst ht; exact dsts_guard hg hc)
        cases hcw : wb c want with
        | true =>
          rw [hcw] at h
          rw [wb_eq] at hcw
          obtain rfl : c = want := by simpa using hcw
          exact hrun _ (hT _) (hC.known hu) (by simp [Region.wanted, hg, hy]) h
        | false =>
          rw [hcw] at h
          rw [wb_eq] at hcw
          obtain rfl : c = !want := by cases c <;> cases want <;> simp_all
          have hw : Region.wanted o (yielded ops.toArray a.tmps) = false := by
            simp only [Region.wanted, hg, hy]
            cases want <;> rfl
          unfold wpList
          rw [hw, if_neg (by simp)]
          exact regX_sound l h (Conc.putS (hC.known hu) o.dst (by simp [Rel])) (fun tm' H' σ'' τ'' β'' a' w'' hk he hc => hQ tm' H' σ'' τ'' β'' a' w'' hk
            (Went.trans ⟨.refl, ⟨[], by simp⟩, .refl H, (hT _).trans (TPres.put (fun t ht => dsts_mem (.inl ht)))⟩ (he.mono (fun t ht => dsts_mem (.inr ht)))) hc)
      · split at h
        · rename_i hdead
          have hw : Region.wanted o (yielded ops.toArray a.tmps) = false := by
            simp only [Region.wanted, hg, deadG_sound hC hdead]
            rfl
          unfold wpList
          rw [hw, if_neg (by simp)]
          exact regX_sound l h (Conc.putS hC o.dst (by simp [Rel])) (fun tm' H' σ'' τ'' β'' a' w'' hk he hc => hQ tm' H' σ'' τ'' β'' a' w'' hk
            (Went.trans ⟨.refl, ⟨[], by simp⟩, .refl H, TPres.put (fun t ht => dsts_mem (.inl ht))⟩ (he.mono (fun t ht => dsts_mem (.inr ht)))) hc)
        · cases h
end
end Go.Am
