/- The abstract machine, part 14: a row is frozen: it is read alone from then on. No statement of its own. -/
import Derived.Test.YtfhcockdlfidmaaAm13
namespace Go.Am
open Go.Vk Go.RowKit
set_option linter.unusedVariables false
set_option linter.unusedSimpArgs false
variable [Dr]

section
variable {P : Program} {E : Env} {σ σ1 : Gh} {τ : Nat → Nat} {w w1 : World} {β : List Value} {tm : List AV} {H : List AB} {a : Act}
/-- Cells, their rows frozen. -/
def frzL : List AV → List AB → Option (List AV × List AB)
  | [], H => some ([], H)
  | x :: l, H => match x with
    | .row r => match H[r]? with
      | some (.row T e xs) => match frzL l (H.set r .gone) with
        | some (l', H') => some (.sv true T xs :: l', H')
        | none => none
      | _ => none
    | x => match frzL l H with
      | some (l', H') => some (x :: l', H')
      | none => none
theorem frzL_sound : ∀ {l l' : List AV} {H H' : List AB} {σ : Gh} {us : List Value}, frzL l H = some (l', H') → Conc E σ τ β ⟨tm, H⟩ a w → RelL E σ w β l us →
    HPres H H' ∧ ∃ σ', EvT (Rng E) σ w σ' w ∧ Conc E σ' τ β ⟨tm, H'⟩ a w ∧ RelL E σ' w β l' us
  | [], l', H, H', σ, us, h, hC, hr => by
    simp only [frzL, Option.some.injEq, Prod.mk.injEq] at h
    obtain ⟨rfl, rfl⟩ := h
    exact ⟨.refl H, σ, .refl, hC, hr⟩
  | x :: l, l', H, H', σ, us, h, hC, hr => by
    have hP : ∀ t, E.Pr t → ¬ Rng E t := fun t ht h => h (E.sub t ht)
    simp only [RelL] at hr
    obtain ⟨v, u, rfl, h2, h3⟩ := hr
    unfold frzL at h
    split at h
    · rename_i r
      split at h
      · rename_i T e xs hrow
        split at h
        · rename_i l1 H1 hf
          simp only [Option.some.injEq, Prod.mk.injEq] at h
          obtain ⟨rfl, rfl⟩ := h
          obtain ⟨σ1, f1, f2, f3⟩ := conc_freeze hC hrow
          obtain ⟨g0, σ2, g1, g2, g3⟩ := frzL_sound hf f2 (RelL.ev f1 hP h3)
          simp only [Rel] at h2
          refine ⟨.trans (.set hrow (fun b => by simp)) g0, σ2, f1.trans g1, g2, ?_⟩
          simp only [RelL]
          exact ⟨v, u, rfl, Rel.ev g1 hP (f3 v h2.1), g3⟩
        · cases h
      · cases h
    · split at h
      · rename_i l1 H1 hf
        simp only [Option.some.injEq, Prod.mk.injEq] at h
        obtain ⟨rfl, rfl⟩ := h
        obtain ⟨g0, σ2, g1, g2, g3⟩ := frzL_sound hf hC h3
        refine ⟨g0, σ2, g1, g2, ?_⟩
        simp only [RelL]
        exact ⟨v, u, rfl, Rel.ev g1 hP h2, g3⟩
      · cases h
/-- The same for whole values: structs of cells. -/
def frzV (x : AV) (H : List AB) : Option (AV × List AB) :=
  match x with
  | .agg cs => match frzL cs H with
    | some (cs', H') => some (.agg cs', H')
    | none => none
  | x => some (x, H)
def frzVs : List AV → List AB → Option (List AV × List AB)
  | [], H => some ([], H)
  | x :: l, H => match frzV x H with
    | some (x', H1) => match frzVs l H1 with
      | some (l', H2) => some (x' :: l', H2)
      | none => none
    | none => none
theorem frzV_sound {x x' : AV} {H' : List AB} {u : Value} (h : frzV x H = some (x', H')) (hC : Conc E σ τ β ⟨tm, H⟩ a w) (hr : Rel E σ w β x u) :
    HPres H H' ∧ ∃ σ', EvT (Rng E) σ w σ' w ∧ Conc E σ' τ β ⟨tm, H'⟩ a w ∧ Rel E σ' w β x' u := by
  unfold frzV at h
  split at h
  · split at h
    · rename_i cs' H1 hf
      simp only [Option.some.injEq, Prod.mk.injEq] at h
      obtain ⟨rfl, rfl⟩ := h
      simp only [Rel] at hr
      obtain ⟨vs, h1, h2⟩ := hr
      obtain ⟨g0, σ2, g1, g2, g3⟩ := frzL_sound hf hC h2
      exact ⟨g0, σ2, g1, g2, by simp only [Rel]; exact ⟨vs, h1, g3⟩⟩
    · cases h
  · simp only [Option.some.injEq, Prod.mk.injEq] at h
    obtain ⟨rfl, rfl⟩ := h
    exact ⟨.refl _, σ, .refl, hC, hr⟩
theorem frzVs_sound : ∀ {l l' : List AV} {H H' : List AB} {σ : Gh} {us : List Value}, frzVs l H = some (l', H') → Conc E σ τ β ⟨tm, H⟩ a w → RelL E σ w β l us →
    HPres H H' ∧ ∃ σ', EvT (Rng E) σ w σ' w ∧ Conc E σ' τ β ⟨tm, H'⟩ a w ∧ RelL E σ' w β l' us
  | [], l', H, H', σ, us, h, hC, hr => by
    simp only [frzVs, Option.some.injEq, Prod.mk.injEq] at h
    obtain ⟨rfl, rfl⟩ := h
    exact ⟨.refl H, σ, .refl, hC, hr⟩
  | x :: l, l', H, H', σ, us, h, hC, hr => by
    have hP : ∀ t, E.Pr t → ¬ Rng E t := fun t ht h => h (E.sub t ht)
    simp only [RelL] at hr
    obtain ⟨v, u, rfl, h2, h3⟩ := hr
    simp only [frzVs] at h
    split at h
    · rename_i x1 H1 hf
      split at h
      · rename_i l1 H2 hg
        simp only [Option.some.injEq, Prod.mk.injEq] at h
        obtain ⟨rfl, rfl⟩ := h
        obtain ⟨f0, σ1, f1, f2, f3⟩ := frzV_sound hf hC h2
        obtain ⟨g0, σ2, g1, g2, g3⟩ := frzVs_sound hg f2 (RelL.ev f1 hP h3)
        refine ⟨f0.trans g0, σ2, f1.trans g1, g2, ?_⟩
        simp only [RelL]
        exact ⟨v, u, rfl, Rel.ev g1 hP f3, g3⟩
      · cases h
    · cases h
end
end Go.Am
