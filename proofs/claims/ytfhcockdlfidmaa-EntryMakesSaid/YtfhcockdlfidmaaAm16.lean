/- The abstract machine, part 16: a law, called from outside. No statement of its own. -/
import Derived.Test.YtfhcockdlfidmaaAm12
namespace Go.Am
open Go.Vk Go.RowKit
set_option linter.unusedVariables false
set_option linter.unusedSimpArgs false
variable [Dr]

/-- Nothing is let alone but what was there. -/
def E0 : Env := ⟨fun t => t = 0, fun t => t = 0, 1, rfl, fun _ h => h, fun t h => by subst h; decide⟩
theorem relV_agg {E : Env} {σ : Gh} {w : World} {β : List Value} {T : Ty} {x : T.Den} {vs : Array Value} (h : repTy T σ w x (Value.agg vs).cells.toList) : Rel E σ w β (encV true T x) (.agg vs) :=
  encV_rel ⟨vs.toList, by simpa [Value.cells] using h, by simp⟩
theorem relV_one {E : Env} {σ : Gh} {w : World} {β : List Value} {T : Ty} {x : T.Den} {v : Value} (h : repTy T σ w x v.cells.toList) (hv : v.cells = #[v]) : Rel E σ w β (encV false T x) v :=
  encV_rel ⟨[v], by rw [hv] at h; exact h, rfl⟩
theorem relL_nil {E : Env} {σ : Gh} {w : World} {β : List Value} : RelL E σ w β [] [] := by simp [RelL]
theorem relL_cons {E : Env} {σ : Gh} {w : World} {β : List Value} {x : AV} {v : Value} {xs : List AV} {vs : List Value} (h : Rel E σ w β x v) (hs : RelL E σ w β xs vs) : RelL E σ w β (x :: xs) (v :: vs) := by
  simp only [RelL]; exact ⟨v, vs, rfl, h, hs⟩
theorem law_calls {P : Program} {f : FuncId} {ps : List (Bool × Ty)} {F : ADen ps → Option Bool} (h : HdlOk P f (hdl ps [.sl 0 false .bool] F)) (W : World) (args : List AV) (y : ADen ps) (us : List Value)
    (hd : decArgs [] ps args = some y) (hF : F y = some true) (hr : RelL E0 (fun _ => 0) W [] args us) :
    Calls P f us.toArray W (fun e W' => e = .returned (.bool true) ∧ ∃ σ', EvT (Rng E0) (fun _ => 0) W σ' W') := by
  have hx : hdl ps [.sl 0 false .bool] F (List AB × AV) args [] (fun H av => some (H, av)) = some ([], .val (.bool true)) := by
    unfold hdl
    rw [hd]
    simp only [hF, Option.bind_some]
    rfl
  have hC : Conc E0 (fun _ => 0) (fun _ => 0) [] ⟨[], []⟩ ⟨#[], []⟩ W := ⟨rfl, by simp [RelL], rfl, fun i x v hx => by simp at hx, fun i x hx => by simp at hx, fun i j x y hx => by simp at hx⟩
  refine Calls.mono (h _ args [] _ _ hx E0 (fun _ => 0) (fun _ => 0) [] [] ⟨#[], []⟩ W us hC hr) ?_
  rintro e W' ⟨v, σ', rfl, H', av, τ', β', hk, _, _, e2, _, e4⟩
  simp only [Option.some.injEq, Prod.mk.injEq] at hk
  obtain ⟨rfl, rfl⟩ := hk
  simp only [Rel] at e4
  exact ⟨by rw [e4], σ', e2⟩
omit [Dr] in
theorem rng0 : ¬ Rng E0 0 := fun h => h rfl
end Go.Am
