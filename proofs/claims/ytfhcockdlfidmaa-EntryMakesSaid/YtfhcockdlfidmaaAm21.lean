/- The abstract machine, part 21: a call whose contract is a plain one (nothing that was there is turned) is one. No statement of its own. -/
import Derived.Test.YtfhcockdlfidmaaAm12
namespace Go.Am
open Go.Vk Go.RowKit
set_option linter.unusedVariables false
set_option linter.unusedSimpArgs false
variable [Dr]

theorem EvT.below {σ : Gh} {w w' : World} (hD : ¬ Dr.D) (h : Below w.heap.size w w') : EvT (fun _ => False) σ w σ w' :=
  ⟨h.os, h.tape, h.output, fun d => absurd d hD, h.size, fun b hb _ => ⟨rfl, h.block b hb⟩⟩

theorem hdl_plain {P : Program} (hD : ¬ Dr.D) {f : FuncId} {ps : List (Bool × Ty)} {rs : List Car} {F : ADen ps → Option (CarsDen rs)} (hsl : rs.all Car.isSl = true)
    (h : ∀ (y : ADen ps) (r : CarsDen rs), F y = some r → ∀ (E : Env) (σ : Gh) (w : World) (us : List Value), RelL E σ w [] (encArgs ps y) us →
      Calls P f us.toArray w fun e w' => ∃ v, e = .returned v ∧ Below w.heap.size w w' ∧ ∀ (E : Env) (σ' : Gh) (β : List Value), Rel E σ' w' β (oneOf (unpackC rs r (List.replicate rs.length .unk, [])).1) v) :
    HdlOk P f (hdl ps rs F) := by
  intro X args H k x hx
  unfold hdl at hx
  split at hx
  case h_2 => cases hx
  rename_i y hy
  obtain ⟨r, hr, hk⟩ := Option.bind_eq_some_iff.1 hx
  rw [unpack_sl hsl] at hk
  intro E σ τ β tm a w us hC hargs
  obtain ⟨r0, q1, q2⟩ := Gh.fresh σ 1 w.heap.size
  let E' : Env := ⟨fun t => t < r0, fun t => t < r0, r0, by show 0 < r0; omega, fun t h => h, fun t h => h⟩
  have hargs' : RelL E' σ w [] (encArgs ps y) us := decArgs_rel hC (fun b hb => q2 b hb) hargs hy
  refine Calls.mono (h y r hr E' σ w us hargs') ?_
  rintro e w' ⟨v, rfl, hb, hv⟩
  have hev : EvT (fun _ => False) σ w σ w' := .below hD hb
  exact ⟨v, σ, rfl, H, _, τ, β, hk, .refl H, ⟨[], by simp⟩, hev.mono (fun _ h => h.elim), ⟨hC.defers, RelL.ev hev (fun _ _ h => h) hC.tmps, hC.size, fun i x v hx hv => BRel.ev (hC.heap i x v hx hv) hev (fun _ _ h => h) (fun _ h => h), hC.apart, hC.inj⟩, hv E σ β⟩

/-- A slice of ints as an argument: what its cells hold. -/
theorem rel_ints {E : Env} {σ : Gh} {w : World} {β : List Value} {p : Bool} {zs : List Int} {u : Value} (h : Rel E σ w β (.sv p (.int .i64) zs) u) :
    ∃ A c, u = .slice A zs.length c ∧ zs.length ≤ c ∧ (zs ≠ [] → ∃ b off, A = some ⟨b, off, none⟩ ∧ b < w.heap.size ∧ ∀ j, j < zs.length → w.cell? ⟨b, off + j, none⟩ = some (.int .i64 (zs[j]?.getD 0))) := by
  simp only [Rel] at h
  obtain ⟨A, c, t, rfl, hc, _, _, hrd⟩ := h
  refine ⟨A, c, rfl, hc, fun hz => ?_⟩
  obtain ⟨ad, rfl, hb, _, hcell⟩ := hrd (List.length_pos_iff.2 hz)
  have hall : ∀ j, j < zs.length → w.cell? (ad.add j) = some (.int .i64 (zs[j]?.getD 0)) := by
    intro j hj
    obtain ⟨cs, hr, hcs⟩ := hcell j hj
    have hr : cs = [.int .i64 zs[j]] := hr
    subst hr
    have := hcs 0 (.int .i64 zs[j]) rfl
    simpa [Ty.kd, Ty.sz, hj] using this
  obtain ⟨b, off, el⟩ := ad
  have h0 := hall 0 (List.length_pos_iff.2 hz)
  have hel : el = none := by
    cases el with
    | none => rfl
    | some q =>
      simp [World.cell?, Addr.add] at h0
      split at h0 <;> cases h0
  subst hel
  exact ⟨b, off, rfl, hb, fun j hj => by
    have := hall j hj
    by_cases h : j = 0
    · subst h; simpa [Addr.add] using this
    · simpa [Addr.add, h] using this⟩
end Go.Am
