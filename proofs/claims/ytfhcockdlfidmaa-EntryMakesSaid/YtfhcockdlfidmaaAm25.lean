/- The abstract machine, part 25: bytes.Clone. No statement of its own. -/
import Derived.Test.YtfhcockdlfidmaaAm21
import Derived.Shelf.Bytes.SlClone
namespace Go.Am
open Go.Vk Go.RowKit Go.Proofs
set_option linter.unusedVariables false
set_option linter.unusedSimpArgs false
variable [Dr]

theorem reps_ints {σ : Gh} {w : World} {k : IntKind} : ∀ (xs : List Int), Reps (Ty.kd (.int k)) σ w xs (xs.map (Value.int k))
  | [] => rfl
  | x :: xs => ⟨[.int k x], xs.map (Value.int k), rfl, rfl, reps_ints xs⟩
/-- A slice of bytes as an argument: what its cells hold. -/
theorem rel_bytes {E : Env} {σ : Gh} {w : World} {β : List Value} {p : Bool} {zs : List Int} {u : Value} (h : Rel E σ w β (.sv p (.int .u8) zs) u) :
    ∃ A c, u = .slice A zs.length c ∧ zs.length ≤ c ∧ (A = none → zs = []) ∧ ∀ a, A = some a → ∀ j, j < zs.length → w.cell? (a.add j) = some (.int .u8 (zs.getD j 0)) := by
  simp only [Rel] at h
  obtain ⟨A, c, t, rfl, hc, _, _, hrd⟩ := h
  refine ⟨A, c, rfl, hc, fun hA => ?_, fun a ha j hj => ?_⟩
  · subst hA
    cases zs with
    | nil => rfl
    | cons z zs => obtain ⟨ad, h, _⟩ := hrd (by simp); cases h
  · obtain ⟨ad, hA, hb, _, hcell⟩ := hrd (by omega)
    rw [ha] at hA
    injection hA with hA
    subst hA
    obtain ⟨cs, hr, hcs⟩ := hcell j hj
    have hr : cs = [.int .u8 zs[j]] := hr
    subst hr
    have := hcs 0 (.int .u8 zs[j]) rfl
    simpa [Ty.kd, Ty.sz, List.getD, hj] using this

def cloneHdl (e : TypeId) : Hdl := hdl [(false, .slice (.int .u8))] [.row 0 (.int .u8) e] (fun y => bif decide (y.length ≤ 140737488355328) then some y else none)
theorem clone_ok {P : Program} {ρ : Go.Shelf.Ren} (hD : ¬ Dr.D) (L : SlLaysK.n4 P ρ) {f : FuncId} {e : TypeId} (hf : ρ.f 4 = f) (he : ρ.t 5 = e) : HdlOk P f (cloneHdl e) := by
  subst hf he
  intro X args H k x hx
  unfold cloneHdl hdl at hx
  split at hx
  case h_2 => cases hx
  rename_i y hy
  obtain ⟨r, hr, hk⟩ := Option.bind_eq_some_iff.1 hx
  have hr : (bif decide (List.length y ≤ 140737488355328) then some y else none) = some r := hr
  have hlen : List.length y ≤ 140737488355328 ∧ r = y := by
    cases hd : decide (List.length y ≤ 140737488355328) with
    | true => rw [hd] at hr; exact ⟨of_decide_eq_true hd, (Option.some.inj hr).symm⟩
    | false => rw [hd] at hr; cases hr
  obtain ⟨hlen, rfl⟩ := hlen
  intro E σ τ β tm a w us hC hargs
  obtain ⟨r0, q1, q2⟩ := Gh.fresh σ 1 w.heap.size
  let E' : Env := ⟨fun t => t < r0, fun t => t < r0, r0, by show 0 < r0; omega, fun t h => h, fun t h => h⟩
  have hargs' : RelL E' σ w [] (encArgs [(false, .slice (.int .u8))] r) us := decArgs_rel hC (fun b hb => q2 b hb) hargs hy
  simp only [encArgs, RelL] at hargs'
  obtain ⟨u, us', rfl, hu, rfl⟩ := hargs'
  obtain ⟨A, c, rfl, hc, hnone, hsome⟩ := rel_bytes (show Rel E' σ w [] (.sv false (.int .u8) r) u from hu)
  obtain ⟨t0, hP, ht⟩ := conc_fresh hC
  have fin : ∀ {w' : World} {v' : Value}, Below w.heap.size w w' → w'.ownsRow w.heap.size (ρ.t 5) 1 v' r.length (r.map (Value.int .u8)) →
      ∃ v σ', Ending.returned v' = .returned v ∧ ∃ H' av τ' β', k H' av = some x ∧ HPres H H' ∧ (∃ s, β' = β ++ s) ∧ EvT (Rng E) σ w σ' w' ∧ Conc E σ' τ' β' ⟨tm, H'⟩ a w' ∧ Rel E σ' w' β' av v := by
    intro w' v' hb ho
    let σ' : Gh := fun b => if b < w.heap.size then σ b else t0
    have hev : EvT (fun t => t = t0) σ w σ' w' := ⟨hb.os, hb.tape, hb.output, fun d => absurd d hD, hb.size, fun b hbs _ => ⟨by simp [σ', hbs], hb.block b hbs⟩⟩
    have hown : Own (Ty.kd (.int .u8)) (ρ.t 5) σ' t0 w' v' r := by
      refine ⟨_, ⟨ho.1, ho.2.imp id (fun ⟨g, cap, cur, h1, h2, h3⟩ => ⟨g, cap, cur, h1, Nat.zero_le _, h3⟩)⟩, fun g hg => ?_, reps_ints r⟩
      rcases ho.2 with ⟨rfl, _⟩ | ⟨g', cap, cur, rfl, h2, _⟩
      · simp [Value.ownBlock] at hg
      · simp only [Value.ownBlock, Option.some.injEq] at hg
        subst hg
        have : ¬ g' < w.heap.size := by omega
        simp [σ', this]
    obtain ⟨p1, p2⟩ := conc_row hC hev hP ht hown
    exact ⟨v', σ', rfl, _, _, _, _, hk, HPres.app H _, ⟨_, rfl⟩, hev.mono (fun t h hp => hP (h ▸ hp)), p1, p2⟩
  cases A with
  | none =>
    obtain rfl := hnone rfl
    refine Calls.mono (Any.bytes_Clone_nil L 0 c w) ?_
    rintro e w' ⟨rfl, rfl⟩
    exact fin (Below.refl _ _) ⟨by simp, .inl ⟨rfl, rfl⟩⟩
  | some ad =>
    refine Calls.mono (Any.bytes_Clone_at L ad r.length c r w rfl hlen (hsome ad rfl)) ?_
    rintro e w' ⟨v', rfl, ho, _, hb⟩
    exact fin hb ho
end Go.Am
