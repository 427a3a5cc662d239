/- The abstract machine, part 15: structs that are compared. No statement of its own. -/
import Derived.Test.YtfhcockdlfidmaaAm2
namespace Go.Am
open Go.Vk Go.RowKit
set_option linter.unusedVariables false
set_option linter.unusedSimpArgs false
variable [Dr]

def eqFs (P : Program) (again : TypeId → Value → Value → Option Bool) (xs ys : Array Value) : List Field → Option Bool
  | [] => some true
  | f :: fs => match f.name == "_", runPure P (part f.type xs f.offset), runPure P (part f.type ys f.offset) with
    | false, some a, some b => match again f.type a b, eqFs P again xs ys fs with
      | some r, some s => some (r && s)
      | _, _ => none
    | _, _, _ => none
def eqIs (P : Program) (again : TypeId → Value → Value → Option Bool) (e : TypeId) (c : Nat) (xs ys : Array Value) : List Nat → Option Bool
  | [] => some true
  | i :: is => match runPure P (part e xs (i * c)), runPure P (part e ys (i * c)) with
    | some a, some b => match again e a b, eqIs P again e c xs ys is with
      | some r, some s => some (r && s)
      | _, _ => none
    | _, _ => none
def eqV (P : Program) : Nat → Nat → TypeId → Value → Value → Option Bool
  | 0, _, _, _, _ => none
  | n + 1, d, t, x, y => match x, y with
    | .agg xs, .agg ys => match P.underlying t, P.stoodInHeld t, d with
      | some (.struct fs), false, d' + 1 => eqFs P (eqV P n d') xs ys fs.toList
      | some (.array m e), _, d' + 1 => match P.info? e with
        | some _ => eqIs P (eqV P n d') e (P.cellsOf e) xs ys (List.range m)
        | none => none
      | _, _, _ => none
    | x, y => runPure P (Op.equalIn d t x y)
section
variable {P : Program} {w : World}
omit [Dr] in
theorem eqFs_sound {again : TypeId → Value → Value → Option Bool} {d : Nat} (ha : ∀ t x y r, again t x y = some r → (Op.equalIn d t x y).run P w = .ok r w) {xs ys : Array Value} : ∀ {fs : List Field} {r : Bool}, eqFs P again xs ys fs = some r → (Op.eqFields d xs ys fs).run P w = .ok r w
  | [], r, h => by
    simp only [eqFs, Option.some.injEq] at h
    subst h
    exact eqf0
  | f :: fs, r, h => by
    simp only [eqFs] at h
    split at h
    · rename_i a b hn h1 h2
      split at h
      · rename_i r' s' h3 h4
        obtain rfl := Option.some.inj h
        exact eqf1 a b hn (runPure_run w h1) (runPure_run w h2) (ha _ _ _ _ h3) (eqFs_sound ha h4)
      · cases h
    · cases h
omit [Dr] in
theorem eqIs_sound {again : TypeId → Value → Value → Option Bool} {d : Nat} (ha : ∀ t x y r, again t x y = some r → (Op.equalIn d t x y).run P w = .ok r w) {e : TypeId} {c : Nat} {xs ys : Array Value} : ∀ {is : List Nat} {r : Bool}, eqIs P again e c xs ys is = some r → (Op.eqItems d e c xs ys is).run P w = .ok r w
  | [], r, h => by
    simp only [eqIs, Option.some.injEq] at h
    subst h
    simp [Op.eqItems]
  | i :: is, r, h => by
    simp only [eqIs] at h
    split at h
    · rename_i a b h1 h2
      split at h
      · rename_i r' s' h3 h4
        obtain rfl := Option.some.inj h
        have h5 := eqIs_sound ha h4
        simp only [Op.eqItems, Sem.run_bind, runPure_run w h1, runPure_run w h2, ha _ _ _ _ h3, Result.andThen_ok]
        cases r'
        · simp
        · simpa using h5
      · cases h
    · cases h
omit [Dr] in
theorem eqV_sound : ∀ (n : Nat) {d : Nat} {t : TypeId} {x y : Value} {r : Bool}, eqV P n d t x y = some r → (Op.equalIn d t x y).run P w = .ok r w
  | 0, d, t, x, y, r, h => by simp [eqV] at h
  | n + 1, d, t, x, y, r, h => by
    unfold eqV at h
    split at h
    · split at h
      · rename_i fs d' hu hs
        exact eqA hu hs (eqFs_sound (fun t x y r hr => eqV_sound n hr) h)
      · rename_i m e d' hu
        split at h
        · rename_i i hi
          rw [run_equalIn_array w d' _ _ hu hi]
          exact eqIs_sound (fun t x y r hr => eqV_sound n hr) h
        · cases h
      · cases h
    · exact runPure_run w h
/-- Two structs, compared: (op, the answer). -/
def eqX (P : Program) (o : Oper) (ρ : Operand → AV) : Option Value :=
  match o.op with
  | .binOp .eql t x y _ => match (ρ x).exact, (ρ y).exact with
    | some (.agg xs), some (.agg ys) => match runPure P (eqGuard .eql t x y (.agg xs) (.agg ys)), eqV P 9 (9999 + 1) t (.agg xs) (.agg ys) with
      | some (), some c => some (.bool c)
      | _, _ => none
    | _, _ => none
  | .binOp .neq t x y _ => match (ρ x).exact, (ρ y).exact with
    | some (.agg xs), some (.agg ys) => match runPure P (eqGuard .neq t x y (.agg xs) (.agg ys)), eqV P 9 (9999 + 1) t (.agg xs) (.agg ys) with
      | some (), some c => some (.bool (!c))
      | _, _ => none
    | _, _ => none
  | _ => none
theorem eqX_sound {E : Env} {σ : Gh} {τ : Nat → Nat} {β : List Value} {tm : List AV} {H : List AB} {a : Act} {o : Oper} {v : Value} (hC : Conc E σ τ β ⟨tm, H⟩ a w) (h : eqX P o (aeval tm) = some v) : OpOut P E σ β tm a w o H (.val v) := by
  unfold eqX at h
  split at h
  · rename_i t x y u ho
    split at h
    · rename_i xs ys hx hy
      split at h
      · rename_i c hg he
        obtain rfl := Option.some.inj h
        exact OpOut.same hC (run_eql_of ho (exact_rel (aeval_rel hC x) hx) (exact_rel (aeval_rel hC y) hy) (eq_top (runPure_run w hg) (eqV_sound 9 he))) (by simp [Rel])
      · cases h
    · cases h
  · rename_i t x y u ho
    split at h
    · rename_i xs ys hx hy
      split at h
      · rename_i c hg he
        obtain rfl := Option.some.inj h
        exact OpOut.same hC (run_neq_of ho (exact_rel (aeval_rel hC x) hx) (exact_rel (aeval_rel hC y) hy) (neq_top (runPure_run w hg) (eqV_sound 9 he))) (by simp [Rel])
      · cases h
    · cases h
  · cases h
end
end Go.Am
