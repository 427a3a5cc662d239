/- The abstract machine, part 2: operations that touch no memory; loads. No statement of its own. -/
import Derived.Test.YtfhcockdlfidmaaAm1
import Derived.Orders
namespace Go.Am
open Go.Vk Go.RowKit
set_option linter.unusedVariables false
set_option linter.unusedSimpArgs false
variable [Dr]

/-- A computation that asks for no memory. -/
def runPure {α : Type} (P : Program) : Sem α → Option α
  | .pure a => some a
  | .program k => runPure P (k P)
  | .mark _ k => runPure P k
  | _ => none
omit [Dr] in
theorem runPure_run {α : Type} {P : Program} (w : World) {a : α} : ∀ {s : Sem α}, runPure P s = some a → s.run P w = .ok a w
  | .pure b, h => by
    simp only [runPure, Option.some.injEq] at h
    rw [← h]; rfl
  | .program k, h => by
    simp only [runPure] at h
    have := runPure_run w (s := k P) h
    simpa [Sem.run] using this
  | .mark _ k, h => by
    simp only [runPure] at h
    have := runPure_run w (s := k) h
    simpa [Sem.run] using this
  | .load .., h => by simp [runPure] at h
  | .store .., h => by simp [runPure] at h
  | .new .., h => by simp [runPure] at h
  | .shape .., h => by simp [runPure] at h
  | .freeze .., h => by simp [runPure] at h
  | .frozen .., h => by simp [runPure] at h
  | .getObj .., h => by simp [runPure] at h
  | .setObj .., h => by simp [runPure] at h
  | .choose .., h => by simp [runPure] at h
  | .sys .., h => by simp [runPure] at h
  | .halt .., h => by simp [runPure] at h

def aeval (tm : List AV) : Operand → AV
  | .tmp t => tm.getD t .unk
  | .const v => .val v
  | .global _ => .unk
  | .func f => .val (.func (.func f) #[] #[])
/-- the value, if it is known -/
def exact1 : AV → Option Value
  | .val v => some v
  | _ => none
def exactL : List AV → Option (List Value)
  | [] => some []
  | x :: xs => match exact1 x, exactL xs with
    | some v, some vs => some (v :: vs)
    | _, _ => none
def AV.exact : AV → Option Value
  | .val v => some v
  | .agg cs => match exactL cs with
    | some vs => some (.agg vs.toArray)
    | none => none
  | _ => none

def Rng (E : Env) : Nat → Prop := fun t => ¬ E.Kp t

section
variable {E : Env} {σ : Gh} {τ : Nat → Nat} {w : World} {β : List Value} {st : St} {a : Act}
theorem aeval_rel (h : Conc E σ τ β st a w) (x : Operand) : Rel E σ w β (aeval st.tmps x) (a.eval x) := by
  cases x with
  | tmp t =>
    simp only [aeval, Act.eval]
    rw [List.getD_eq_getElem?_getD]
    cases ht : st.tmps[t]? with
    | none => simp [Rel]
    | some v =>
      obtain ⟨u, h1, h2⟩ := RelL.get h.tmps ht
      rw [Array.getElem?_toList] at h1
      simp only [Option.getD_some, Array.getD_eq_getD_getElem?, h1]
      exact h2
  | const v => simp [aeval, Rel, Act.eval]
  | global g => simp [aeval, Rel]
  | func f => simp [aeval, Rel, Act.eval]
theorem exactL_rel : ∀ {xs : List AV} {vs us : List Value}, RelL E σ w β xs us → exactL xs = some vs → us = vs
  | [], vs, us, h, he => by
    simp only [RelL] at h
    simp only [exactL, Option.some.injEq] at he
    rw [h, he]
  | x :: xs, vs, us, h, he => by
    simp only [RelL] at h
    obtain ⟨v, r, rfl, h2, h3⟩ := h
    cases x <;> simp only [exactL, exact1] at he <;> try (cases he; done)
    cases hx : exactL xs with
    | none => rw [hx] at he; cases he
    | some ws =>
      rw [hx] at he
      simp only [Option.some.injEq] at he
      simp only [Rel] at h2
      rw [← he, h2, exactL_rel h3 hx]
theorem exact_rel {x : AV} {v u : Value} (h : Rel E σ w β x u) (he : x.exact = some v) : u = v := by
  cases x <;> simp only [AV.exact] at he <;> try (cases he; done)
  · simp only [Option.some.injEq] at he
    subst he
    simpa [Rel] using h
  · rename_i cs
    cases hx : exactL cs with
    | none => rw [hx] at he; cases he
    | some ws =>
      rw [hx] at he
      simp only [Option.some.injEq] at he
      simp only [Rel] at h
      obtain ⟨us, h1, h2⟩ := h
      rw [h1, ← he, exactL_rel h2 hx]
end

/-- What an operation leaves. -/
def OpOut (P : Program) (E : Env) (σ : Gh) (β : List Value) (tm : List AV) (a : Act) (w : World) (o : Oper) (H' : List AB) (av : AV) : Prop :=
  OpGives P a.eval o w (fun v σ' w' => ∃ τ' β', (∃ s, β' = β ++ s) ∧ EvT (Rng E) σ w σ' w' ∧ Conc E σ' τ' β' ⟨tm, H'⟩ a w' ∧ Rel E σ' w' β' av v)

section
variable {P : Program} {E : Env} {σ : Gh} {τ : Nat → Nat} {w : World} {β : List Value} {tm : List AV} {H : List AB} {a : Act} {o : Oper}
theorem OpOut.same {av : AV} {v : Value} (hC : Conc E σ τ β ⟨tm, H⟩ a w) (hr : (execOp a.eval o).run P w = .ok (.value v) w) (hv : Rel E σ w β av v) : OpOut P E σ β tm a w o H av :=
  OpGives.val σ hr ⟨τ, β, ⟨[], by simp⟩, EvT.refl, hC, hv⟩

/-! ### values that are known -/
def exacts (ρ : Operand → AV) (x : Operand) : Value := ((ρ x).exact).getD undef
def pureX (P : Program) (o : Oper) (ρ : Operand → AV) : Option Value :=
  match o.op with
  | .select .. => none
  | _ =>
    match o.op.operands.toList.all (fun x => (ρ x).exact.isSome) with
    | true => match runPure P (execOp (exacts ρ) o) with
      | some (.value v) => some v
      | _ => none
    | false => none
theorem pureX_sound {v : Value} (hC : Conc E σ τ β ⟨tm, H⟩ a w) (h : pureX P o (aeval tm) = some v) : OpOut P E σ β tm a w o H (.val v) := by
  have hns : ∀ cs b, o.op ≠ .select cs b := fun cs b e => by simp [pureX, e] at h
  have hex : o.op.operands.toList.all (fun x => (aeval tm x).exact.isSome) = true := by
    unfold pureX at h
    split at h
    · cases h
    · split at h
      · assumption
      · cases h
  have hr : runPure P (execOp (exacts (aeval tm)) o) = some (.value v) := by
    unfold pureX at h
    split at h
    · cases h
    · rw [hex] at h
      simp only at h
      split at h
      · rename_i he; rw [he]; simpa using h
      · cases h
  have hc : execOp a.eval o = execOp (exacts (aeval tm)) o := execOp_congr o hns (fun x hx => by
    have h1 := List.all_eq_true.1 hex x (by simpa using hx)
    obtain ⟨u, hu⟩ := Option.isSome_iff_exists.1 h1
    have h2 := exact_rel (aeval_rel hC x) hu
    simp only [exacts, hu, Option.getD_some]
    exact h2)
  refine OpOut.same hC (v := v) ?_ (by simp [Rel])
  rw [hc]
  exact runPure_run w hr

/-! ### moves -/
theorem move_sound {x : Operand} (hC : Conc E σ τ β ⟨tm, H⟩ a w) (ho : o.op = .move x ∨ o.op = .assign x) : OpOut P E σ β tm a w o H (aeval tm x) := by
  refine OpOut.same hC (v := a.eval x) ?_ (aeval_rel hC x)
  rcases ho with ho | ho <;> simp [execOp, ho]

def extractX (x : AV) (i : Nat) : Option AV :=
  match x with
  | .tup vs => vs[i]?
  | _ => none
theorem extract_sound {x : Operand} {i : Nat} {y : AV} (hC : Conc E σ τ β ⟨tm, H⟩ a w) (ho : o.op = .extract x i) (h : extractX (aeval tm x) i = some y) : OpOut P E σ β tm a w o H y := by
  have hx := aeval_rel hC x
  unfold extractX at h
  split at h
  · rename_i vs he
    rw [he] at hx
    simp only [Rel] at hx
    obtain ⟨us, h1, h2⟩ := hx
    obtain ⟨u, h3, h4⟩ := RelL.get h2 h
    refine OpOut.same hC (v := u) ?_ h4
    simp [execOp, ho, Instr.extract, h1, h3]
  · cases h

/-! ### addresses -/
def fieldX (P : Program) (t : TypeId) (f : Nat) (x : AV) : Option AV :=
  match P.underlying t with
  | some (.struct fs) => match fs[f]? with
    | some fd => match (P.info? fd.type).map (fun i => Nat.blt 0 i.size) with
      | some true => match x with
        | .ptr b off => some (.ptr b (off + fd.offset))
        | .ep p T xs i off => some (.ep p T xs i (off + fd.offset))
        | .rp r sz i off => some (.rp r sz i (off + fd.offset))
        | _ => none
      | _ => none
    | none => none
  | _ => none
theorem fieldAddr_sound {t : TypeId} {f : Nat} {x : Operand} {y : AV} (hC : Conc E σ τ β ⟨tm, H⟩ a w) (ho : o.op = .fieldAddr t x f) (h : fieldX P t f (aeval tm x) = some y) : OpOut P E σ β tm a w o H y := by
  have hx := aeval_rel hC x
  unfold fieldX at h
  split at h
  · rename_i fs hu
    split at h
    · rename_i fd hf
      split at h
      · rename_i hsz
        obtain ⟨ti, hti, hlt⟩ := Option.map_eq_some_iff.1 hsz
        have hlt : ti.size ≠ 0 := by have : 0 + 1 ≤ ti.size := Nat.le_of_ble_eq_true hlt; omega
        have hrun : ∀ ad : Addr, a.eval x = .pointer (some ad) → (execOp a.eval o).run P w = .ok (.value (.pointer (some (ad.add fd.offset)))) w := fun ad he => by
          simp [execOp, ho, he, Instr.fieldAt, run_underlying hu, hf, Instr.sureAddr, fieldPlace, sizeOf, typeInfo, hti, hlt]
        cases hv : aeval tm x with
        | ptr b off =>
          rw [hv] at h
          have hx : Rel E σ w β (.ptr b off) (a.eval x) := hv ▸ hx
          simp only [Option.some.injEq] at h
          subst h
          simp only [Rel] at hx
          obtain ⟨n, h1, h2⟩ := hx
          refine OpOut.same hC (hrun _ h2) ?_
          simp only [Rel]
          exact ⟨n, h1, by rw [add_mk]⟩
        | ep p T xs i off =>
          rw [hv] at h
          have hx : Rel E σ w β (.ep p T xs i off) (a.eval x) := hv ▸ hx
          simp only [Option.some.injEq] at h
          subst h
          simp only [Rel] at hx
          obtain ⟨ad, t, h1, h2⟩ := hx
          refine OpOut.same hC (hrun _ h1) ?_
          simp only [Rel]
          exact ⟨ad, t, by rw [add_add, Nat.add_assoc], h2⟩
        | rp r sz i off =>
          rw [hv] at h
          have hx : Rel E σ w β (.rp r sz i off) (a.eval x) := hv ▸ hx
          simp only [Option.some.injEq] at h
          subst h
          simp only [Rel] at hx
          obtain ⟨ad, n, c, h1, h2, h3⟩ := hx
          refine OpOut.same hC (hrun _ h3) ?_
          simp only [Rel]
          exact ⟨ad, n, c, h1, h2, by rw [add_add, Nat.add_assoc]⟩
        | _ => simp [hv] at h
      · cases h
    · cases h
  · cases h

/-- The address of an element: whether it is there, and the address. -/
def indexX (P : Program) (H : List AB) (t : TypeId) (x i : AV) : Option (Bool × AV) :=
  match P.underlying t, i with
  | some (.slice e), .val (.int _ n) => match x with
    | .sv p T xs => match (P.info? e).map (fun i => Nat.beq i.size T.sz) with
      | some true => some (decide (0 ≤ n) && decide (n < (xs.length : Int)), .ep p T xs n.toNat 0)
      | _ => none
    | .row r => match look H r with
      | some (.row T e' xs) => match (P.info? e).map (fun i => Nat.beq i.size T.sz) with
        | some true => some (decide (0 ≤ n) && decide (n < (xs.length : Int)), .rp r T.sz n.toNat 0)
        | _ => none
      | _ => none
    | _ => none
  | some (.array m e), .val (.int _ n) => match x with
    | .ptr b off => match P.info? e with
      | some ie => some (decide (0 ≤ n) && decide (n < (m : Int)), .ptr b (off + n.toNat * ie.size))
      | none => none
    | _ => none
  | _, _ => none
theorem index_sound {t : TypeId} {x ix : Operand} {y : AV} (hC : Conc E σ τ β ⟨tm, H⟩ a w) (ho : o.op = .indexAddr t x ix) (h : indexX P H t (aeval tm x) (aeval tm ix) = some (true, y)) : OpOut P E σ β tm a w o H y := by
  have hx := aeval_rel hC x
  have hi := aeval_rel hC ix
  unfold indexX at h
  split at h
  · rename_i e kk n hu hin
    have hi : a.eval ix = .int kk n := by
      have : Rel E σ w β (.val (.int kk n)) (a.eval ix) := hin ▸ hi
      simpa only [Rel] using this
    cases hv : aeval tm x with
    | sv p T xs =>
      rw [hv] at h
      have hx : Rel E σ w β (.sv p T xs) (a.eval x) := hv ▸ hx
      simp only at h
      split at h
      · rename_i hsz
        obtain ⟨ti, hti, hbeq⟩ := Option.map_eq_some_iff.1 hsz
        have hsz : (P.info? e).map (·.size) = some T.sz := by rw [hti]; simpa using Nat.eq_of_beq_eq_true hbeq
        simp only [Option.some.injEq, Prod.mk.injEq] at h
        obtain ⟨hc, rfl⟩ := h
        obtain ⟨h0, h1⟩ := idxS hc
        simp only [Rel] at hx
        obtain ⟨A, c, t', e1, e2, e3, e4, e5⟩ := hx
        obtain ⟨ad, rfl⟩ := e5.some_ h0 h1
        refine OpOut.same hC (ex_index ho hu hsz e1 hi h0 h1) ?_
        simp only [Rel]
        exact ⟨ad, t', by simp, by omega, e3, e4, e5⟩
      · cases h
    | row r =>
      rw [hv] at h
      have hx : Rel E σ w β (.row r) (a.eval x) := hv ▸ hx
      simp only at h
      split at h
      · rename_i T e' xs hr
        split at h
        · rename_i hsz
          obtain ⟨ti, hti, hbeq⟩ := Option.map_eq_some_iff.1 hsz
          have hsz : (P.info? e).map (·.size) = some T.sz := by rw [hti]; simpa using Nat.eq_of_beq_eq_true hbeq
          simp only [Option.some.injEq, Prod.mk.injEq] at h
          obtain ⟨hc, rfl⟩ := h
          obtain ⟨h0, h1⟩ := idxS hc
          simp only [Rel] at hx
          have hb : Own T.kd e' σ (τ r) w (a.eval x) xs := hC.look hr hx.1
          obtain ⟨A, c, e1, e2, _, e5⟩ := hb.rd
          obtain ⟨ad, rfl⟩ := e5.some_ h0 h1
          refine OpOut.same hC (ex_index ho hu hsz e1 hi h0 h1) ?_
          simp only [Rel]
          exact ⟨ad, xs.length, c, by rw [← e1]; exact hx.1, by omega, by simp⟩
        · cases h
      · cases h
    | _ => simp [hv] at h
  · rename_i m e kk n hu hin
    have hi : a.eval ix = .int kk n := by
      have : Rel E σ w β (.val (.int kk n)) (a.eval ix) := hin ▸ hi
      simpa only [Rel] using this
    cases hv : aeval tm x with
    | ptr b off =>
      rw [hv] at h
      have hx : Rel E σ w β (.ptr b off) (a.eval x) := hv ▸ hx
      simp only at h
      split at h
      · rename_i ie hie
        simp only [Option.some.injEq, Prod.mk.injEq] at h
        obtain ⟨hc, rfl⟩ := h
        obtain ⟨h0, h1⟩ := idxS hc
        simp only [Rel] at hx
        obtain ⟨nn, e1, e2⟩ := hx
        refine OpOut.same hC (v := .pointer (some ⟨nn, off + n.toNat * ie.size, none⟩)) ?_ (by simp only [Rel]; exact ⟨nn, e1, rfl⟩)
        simp [execOp, ho, Instr.indexAt, e2, hi, asIntOf, run_underlying hu, h0, h1, sizeOf, typeInfo, hie, Instr.sureAddr, add_mk]
      · cases h
    | _ => simp [hv] at h
  · cases h

/-! ### typed cells -/
def Ty.dfl : (T : Ty) → T.Den
  | .int _ => (0 : Int)
  | .bool => false
  | .str => ByteArray.empty
  | .slice _ => []
  | .pair a b => (Ty.dfl a, Ty.dfl b)
  | .arr _ n => List.replicate n 0
/-- the cells of an array of numbers, from the j-th on -/
def arrC (k : IntKind) (xs : List Int) : Nat → Nat → List AV
  | _, 0 => []
  | j, n + 1 => .val (.int k (xs.getD j 0)) :: arrC k xs (j + 1) n
/-- A typed value's cells. -/
def enc : (T : Ty) → T.Den → List AV
  | .int k, x => [.val (.int k x)]
  | .bool, x => [.val (.bool x)]
  | .str, x => [.val (.string x)]
  | .slice T, xs => [.sv true T xs]
  | .pair a b, x => enc a x.1 ++ enc b x.2
  | .arr k n, xs => arrC k xs 0 n
theorem RelL.append {E : Env} {σ : Gh} {w : World} {β : List Value} : ∀ {xs ys : List AV} {us vs : List Value}, RelL E σ w β xs us → RelL E σ w β ys vs → RelL E σ w β (xs ++ ys) (us ++ vs)
  | [], ys, us, vs, h, k => by simp only [RelL] at h; subst h; exact k
  | x :: xs, ys, us, vs, h, k => by
    simp only [RelL] at h
    obtain ⟨v, r, rfl, h2, h3⟩ := h
    simp only [List.cons_append, RelL]
    exact ⟨v, r ++ vs, rfl, h2, RelL.append h3 k⟩
theorem arrC_rel {E : Env} {σ : Gh} {w : World} {β : List Value} {k : IntKind} {xs : List Int} : ∀ (n j : Nat), j + n = xs.length → RelL E σ w β (arrC k xs j n) ((xs.drop j).map (.int k))
  | 0, j, h => by rw [List.drop_of_length_le (by omega)]; simp [arrC, RelL]
  | n + 1, j, h => by
    rw [List.drop_eq_getElem_cons (by omega)]
    simp only [arrC, List.map_cons, RelL]
    exact ⟨_, _, rfl, by simp [Rel, List.getD_eq_getElem?_getD, List.getElem?_eq_getElem (show j < xs.length by omega)], arrC_rel n (j + 1) (by omega)⟩
theorem enc_rel : ∀ (T : Ty) {x : T.Den} {cs : List Value}, repTy T σ w x cs → RelL E σ w β (enc T x) cs
  | .int k, x, cs, h => by rw [show cs = _ from h]; simp [enc, RelL, Rel]
  | .bool, x, cs, h => by rw [show cs = _ from h]; simp [enc, RelL, Rel]
  | .str, x, cs, h => by rw [show cs = _ from h]; simp [enc, RelL, Rel]
  | .slice T, xs, cs, ⟨A, c, h, hc, hr⟩ => by
    rw [h]
    simp only [enc, RelL, Rel]
    exact ⟨_, [], rfl, ⟨A, c, 0, rfl, hc, E.nought, fun _ => rfl, hr⟩, rfl⟩
  | .pair p q, x, cs, ⟨c1, c2, h, h1, h2⟩ => by
    rw [h]
    exact RelL.append (enc_rel p h1) (enc_rel q h2)
  | .arr k n, xs, cs, ⟨h, h1⟩ => by
    subst h
    have := arrC_rel (E := E) (σ := σ) (w := w) (β := β) (k := k) (xs := xs) n 0 (by rw [h1]; omega)
    simpa [enc] using this
end
end Go.Am
