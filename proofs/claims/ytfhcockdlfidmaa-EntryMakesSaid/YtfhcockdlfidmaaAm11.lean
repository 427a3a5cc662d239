/- The abstract machine, part 11: a function that is walked, as a call. No statement of its own. -/
import Derived.Test.YtfhcockdlfidmaaAm10
namespace Go.Am
open Go.Vk Go.RowKit
set_option linter.unusedVariables false
set_option linter.unusedSimpArgs false
variable [Dr]

/-! ### arguments -/
def encB : (T : Ty) → T.Den → List AV
  | .int k, x => [.val (.int k x)]
  | .bool, x => [.val (.bool x)]
  | .str, x => [.val (.string x)]
  | .slice T, xs => [.sv false T xs]
  | .pair a b, x => encB a x.1 ++ encB b x.2
  | .arr k n, xs => arrC k xs 0 n
def decBS (T : Ty) (H : List AB) : AV → Option (List T.Den)
  | .val (.slice none 0 0) => some []
  | .sv _ T' xs => match tyEq T' T with
    | some ⟨h⟩ => some (castL h xs)
    | none => none
  | .row r => match look H r with
    | some (.row T' _ xs) => match tyEq T' T with
      | some ⟨h⟩ => some (castL h xs)
      | none => none
    | _ => none
  | _ => none
def decB (H : List AB) : (T : Ty) → List AV → Option (T.Den × List AV)
  | .slice T, y :: l => match decBS T H y with
    | some xs => some (xs, l)
    | none => none
  | .pair a b, l => match decB H a l with
    | some (x, l1) => match decB H b l1 with
      | some (y, l2) => some ((x, y), l2)
      | none => none
    | none => none
  | .int k, l => dec (.int k) l
  | .bool, l => dec .bool l
  | .str, l => dec .str l
  | .arr k n, l => dec (.arr k n) l
  | _, _ => none
def decBV (H : List AB) (ag : Bool) (T : Ty) (x : AV) : Option T.Den :=
  match ag with
  | true => match x with
    | .agg cs => whole (decB H T cs)
    | .val (.agg vs) => whole (decB H T (vs.toList.map .val))
    | _ => none
  | false => whole (decB H T [x])
def encBV (ag : Bool) (T : Ty) (y : T.Den) : AV :=
  match ag with
  | true => .agg (encB T y)
  | false => (encB T y).headD .unk
@[reducible] def ADen : List (Bool × Ty) → Type
  | [] => Unit
  | [p] => p.2.Den
  | p :: q :: l => p.2.Den × ADen (q :: l)
def decArgs (H : List AB) : (ps : List (Bool × Ty)) → List AV → Option (ADen ps)
  | [], [] => some ()
  | [p], [x] => decBV H p.1 p.2 x
  | p :: q :: l, x :: xs => match decBV H p.1 p.2 x, decArgs H (q :: l) xs with
    | some y, some ys => some (y, ys)
    | _, _ => none
  | _, _ => none
def encArgs : (ps : List (Bool × Ty)) → ADen ps → List AV
  | [], _ => []
  | [p], y => [encBV p.1 p.2 y]
  | p :: q :: l, y => encBV p.1 p.2 y.1 :: encArgs (q :: l) y.2

section
variable {P : Program} {E E' : Env} {σ σ1 : Gh} {τ τ' : Nat → Nat} {w w1 : World} {β β' : List Value} {tm : List AV} {H : List AB} {a : Act}
theorem encB_rel : ∀ (T : Ty) {x : T.Den} {cs : List Value}, (∀ T' : Ty, T ≠ .slice T') → (∀ p q : Ty, T ≠ .pair p q) → repTy T σ w x cs → RelL E σ w β (encB T x) cs
  | .int k, x, cs, _, _, h => enc_rel (.int k) h
  | .bool, x, cs, _, _, h => enc_rel .bool h
  | .str, x, cs, _, _, h => enc_rel .str h
  | .slice T, x, cs, h, _, _ => absurd rfl (h T)
  | .pair p q, x, cs, _, h, _ => absurd rfl (h p q)
  | .arr k n, x, cs, _, _, h => enc_rel (.arr k n) h
theorem rd_prot {T : Ty} {t : Nat} {A : Option Addr} {xs : List T.Den} (hE : ∀ b, b < w.heap.size → E'.Pr (σ b)) (h : Rd T.kd σ t w A xs) : ∃ t', E'.Pr t' ∧ Rd T.kd σ t' w A xs := by
  rcases Nat.eq_zero_or_pos xs.length with h0 | h0
  · obtain rfl : xs = [] := List.eq_nil_of_length_eq_zero h0
    exact ⟨0, E'.nought, Rd.nil⟩
  · obtain ⟨ad, _, h2, h3, _⟩ := h h0
    exact ⟨t, h3 ▸ hE _ h2, h⟩
theorem decBS_rel {T : Ty} {y : AV} {xs : List T.Den} {u : Value} (hC : Conc E σ τ β ⟨tm, H⟩ a w) (hE : ∀ b, b < w.heap.size → E'.Pr (σ b)) (hr : Rel E σ w β y u) (h : decBS T H y = some xs) : Rel E' σ w β' (.sv false T xs) u := by
  have fin : ∀ A c t, u = .slice A xs.length c → xs.length ≤ c → Rd T.kd σ t w A xs → Rel E' σ w β' (.sv false T xs) u := by
    intro A c t h1 h2 h3
    obtain ⟨t', h4, h5⟩ := rd_prot hE h3
    simp only [Rel]
    exact ⟨A, c, t', h1, h2, h4, (fun h => by cases h), h5⟩
  unfold decBS at h
  split at h
  · obtain rfl := Option.some.inj h
    simp only [Rel] at hr
    exact fin none 0 0 hr (Nat.le_refl _) Rd.nil
  · split at h
    · rename_i hkk _
      obtain rfl := Option.some.inj h
      simp only [Rel] at hr
      obtain ⟨A, c, t, e1, e2, _, _, e5⟩ := hr
      subst hkk
      exact fin A c t e1 e2 e5
    · cases h
  · split at h
    · rename_i r _ T' e ys hl
      split at h
      · rename_i hkk _
        obtain rfl := Option.some.inj h
        simp only [Rel] at hr
        subst hkk
        obtain ⟨A, c, e1, e2, _, e5⟩ := (show Own T'.kd e σ (τ r) w u ys from hC.look hl hr.1).rd
        exact fin A c _ e1 e2 e5
      · cases h
    · cases h
  · cases h
theorem decB_rel (hC : Conc E σ τ β ⟨tm, H⟩ a w) (hE : ∀ b, b < w.heap.size → E'.Pr (σ b)) : ∀ (T : Ty) {l r : List AV} {x : T.Den} {us : List Value}, decB H T l = some (x, r) → RelL E σ w β l us → ∃ c d, us = c ++ d ∧ RelL E' σ w β' (encB T x) c ∧ RelL E σ w β r d
  | .slice T, [], r, x, us, h, hr => by simp [decB] at h
  | .slice T, y :: l, r, x, us, h, hr => by
    simp only [RelL] at hr
    obtain ⟨v, u, rfl, h2, h3⟩ := hr
    simp only [decB] at h
    split at h
    · rename_i xs hd
      simp only [Option.some.injEq, Prod.mk.injEq] at h
      obtain ⟨rfl, rfl⟩ := h
      refine ⟨[v], u, rfl, ?_, h3⟩
      simp only [encB, RelL]
      exact ⟨v, [], rfl, decBS_rel hC hE h2 hd, rfl⟩
    · cases h
  | .pair p q, l, r, x, us, h, hr => by
    simp only [decB] at h
    split at h
    · rename_i x1 l1 h1
      split at h
      · rename_i y l2 h2
        simp only [Option.some.injEq, Prod.mk.injEq] at h
        obtain ⟨rfl, rfl⟩ := h
        obtain ⟨c, d, rfl, e2, e3⟩ := decB_rel hC hE p h1 hr
        obtain ⟨c', d', rfl, e5, e6⟩ := decB_rel hC hE q h2 e3
        exact ⟨c ++ c', d', by rw [List.append_assoc], RelL.append e2 e5, e6⟩
      · cases h
    · cases h
  | .int k, l, r, x, us, h, hr => by
    simp only [decB] at h
    obtain ⟨c, d, e1, e2, e3⟩ := dec_rel _ h hr
    exact ⟨c, d, e1, encB_rel _ (fun _ h => by cases h) (fun _ _ h => by cases h) e2, e3⟩
  | .bool, l, r, x, us, h, hr => by
    simp only [decB] at h
    obtain ⟨c, d, e1, e2, e3⟩ := dec_rel _ h hr
    exact ⟨c, d, e1, encB_rel _ (fun _ h => by cases h) (fun _ _ h => by cases h) e2, e3⟩
  | .str, l, r, x, us, h, hr => by
    simp only [decB] at h
    obtain ⟨c, d, e1, e2, e3⟩ := dec_rel _ h hr
    exact ⟨c, d, e1, encB_rel _ (fun _ h => by cases h) (fun _ _ h => by cases h) e2, e3⟩
  | .arr k n, l, r, x, us, h, hr => by
    simp only [decB] at h
    obtain ⟨c, d, e1, e2, e3⟩ := dec_rel _ h hr
    exact ⟨c, d, e1, encB_rel _ (fun _ h => by cases h) (fun _ _ h => by cases h) e2, e3⟩
theorem decBV_rel {ag : Bool} {T : Ty} {x : AV} {y : T.Den} {u : Value} (hC : Conc E σ τ β ⟨tm, H⟩ a w) (hE : ∀ b, b < w.heap.size → E'.Pr (σ b)) (hr : Rel E σ w β x u) (h : decBV H ag T x = some y) : Rel E' σ w β' (encBV ag T y) u := by
  have hw : ∀ {l : List AV} {us : List Value}, whole (decB H T l) = some y → RelL E σ w β l us → RelL E' σ w β' (encB T y) us := by
    intro l us h1 h2
    obtain ⟨c, d, rfl, h3, h4⟩ := decB_rel (β' := β') hC hE T (whole_some h1) h2
    simp only [RelL] at h4
    subst h4
    simpa using h3
  unfold decBV at h
  split at h
  · simp only [encBV, Rel]
    split at h
    · simp only [Rel] at hr
      obtain ⟨vs, h1, h2⟩ := hr
      exact ⟨vs, h1, hw h h2⟩
    · rename_i vs
      simp only [Rel] at hr
      exact ⟨vs.toList, by simpa using hr, hw h (relL_vals _)⟩
    · cases h
  · have h3 := hw (us := [u]) h (by simp only [RelL]; exact ⟨u, [], rfl, hr, rfl⟩)
    simp only [encBV]
    cases he : encB T y with
    | nil => rw [he] at h3; simp [RelL] at h3
    | cons z l =>
      rw [he] at h3
      simp only [RelL] at h3
      obtain ⟨v, r, e1, e2, _⟩ := h3
      injection e1 with e1 _
      subst e1
      exact e2
theorem decArgs_rel (hC : Conc E σ τ β ⟨tm, H⟩ a w) (hE : ∀ b, b < w.heap.size → E'.Pr (σ b)) : ∀ {ps : List (Bool × Ty)} {l : List AV} {us : List Value} {y : ADen ps}, RelL E σ w β l us → decArgs H ps l = some y → RelL E' σ w β' (encArgs ps y) us
  | [], [], us, y, hr, h => by simp only [RelL] at hr; subst hr; simp [encArgs, RelL]
  | [], x :: xs, us, y, hr, h => by simp [decArgs] at h
  | [p], [], us, y, hr, h => by simp [decArgs] at h
  | [p], [x], us, y, hr, h => by
    simp only [RelL] at hr
    obtain ⟨v, r, rfl, h2, rfl⟩ := hr
    simp only [decArgs] at h
    simp only [encArgs, RelL]
    exact ⟨v, [], rfl, decBV_rel hC hE h2 h, rfl⟩
  | [p], x :: z :: xs, us, y, hr, h => by simp [decArgs] at h
  | p :: q :: l, [], us, y, hr, h => by simp [decArgs] at h
  | p :: q :: l, x :: xs, us, y, hr, h => by
    simp only [RelL] at hr
    obtain ⟨v, r, rfl, h2, h3⟩ := hr
    simp only [decArgs] at h
    split at h
    · rename_i y1 ys h4 h5
      obtain rfl := Option.some.inj h
      simp only [encArgs, RelL]
      exact ⟨v, r, rfl, decBV_rel hC hE h2 h4, decArgs_rel hC hE h3 h5⟩
    · cases h

/-! ### results -/
def resX (P : Program) (tm : List AV) (H : List AB) : ResultVar → Option AV
  | .tmp t => tm[t]?
  | .cell s T => match tm[s]? with
    | some p => loadX P H T p
    | none => none
def resL (P : Program) (tm : List AV) (H : List AB) : List ResultVar → Option (List AV)
  | [] => some []
  | r :: l => match resX P tm H r, resL P tm H l with
    | some v, some vs => some (v :: vs)
    | _, _ => none
theorem resX_sound {r : ResultVar} {v : AV} (hC : Conc E σ τ β ⟨tm, H⟩ a w) (h : resX P tm H r = some v) : ∃ u, (resRun a.tmps r).run P w = .ok u w ∧ Rel E σ w β v u := by
  cases r with
  | tmp t =>
    simp only [resX] at h
    obtain ⟨u, h1, h2⟩ := RelL.get hC.tmps h
    rw [Array.getElem?_toList] at h1
    exact ⟨u, by simp [resRun, Array.getD_eq_getD_getElem?, h1], h2⟩
  | cell s T =>
    simp only [resX] at h
    split at h
    · rename_i p hp
      obtain ⟨u, h1, h2⟩ := load_run (o := { (default : Oper) with op := .load T (.tmp s) }) (x := .tmp s) (t := T) hC rfl (by
        have : aeval tm (.tmp s) = p := by simp [aeval, List.getD_eq_getElem?_getD, hp]
        rw [this]; exact h)
      refine ⟨u, ?_, h2⟩
      have e : a.eval (.tmp s) = a.tmps.getD s undef := rfl
      simp only [execOp, Instr.loadAt, e] at h1
      simp only [resRun]
      generalize a.tmps.getD s undef = u0 at h1 ⊢
      cases u0 <;> first | (simp [Instr.sureAddr, stuck] at h1; done) | skip
      rename_i q
      cases q with
      | none => simp [Instr.sureAddr, stuck] at h1
      | some ad =>
        simp only [Instr.sureAddr, Sem.run_bind, Sem.run_pure, Result.andThen_ok] at h1
        simp only [asAddr, Sem.run_bind, Sem.run_pure, Result.andThen_ok]
        generalize (loadVar T ad).run P w = r at h1 ⊢
        cases r with
        | halt hh w' => simp [Result.andThen] at h1
        | ok z w' => simpa [Result.andThen] using h1
    · cases h
end
end Go.Am
