/- The abstract machine, part 12: a function, walked once, is a call of others. No statement of its own. -/
import Derived.Test.YtfhcockdlfidmaaAm11
import Derived.Test.YtfhcockdlfidmaaAm14
namespace Go.Am
open Go.Vk Go.RowKit
set_option linter.unusedVariables false
set_option linter.unusedSimpArgs false
variable [Dr]

def finX (P : Program) (res : List ResultVar) (rs : List Car) (e : Exit) (tm : List AV) (H : List AB) : Option (CarsDen rs) :=
  match e with
  | .ret => match resL P tm H res with
    | some vs => match frzVs vs H with
      | some (vs', H') => packC rs vs' H'
      | none => none
    | none => none
  | .normal => match resL P tm H res with
    | some vs => match frzVs vs H with
      | some (vs', H') => packC rs vs' H'
      | none => none
    | none => none
  | _ => none
def oneOf : List AV → AV
  | [v] => v
  | vs => .tup vs
def oneVal : List Value → Value
  | [u] => u
  | us => .tuple us.toArray
def hdl (ps : List (Bool × Ty)) (rs : List Car) (F : ADen ps → Option (CarsDen rs)) : Hdl := fun X args H k =>
  match decArgs H ps args with
  | some y => (F y).bind fun r => k (unpackC rs r (List.replicate rs.length .unk, H)).2 (oneOf (unpackC rs r (List.replicate rs.length .unk, H)).1)
  | none => none

def hdlV (ps : List (Bool × Ty)) (rs : List Car) (F : ADen ps → Option (CarsDen rs)) : HdlV := fun X args H k =>
  match decArgs H ps args with
  | some y => (F y).bind fun r => k (oneOf (unpackC rs r (List.replicate rs.length .unk, [])).1)
  | none => none
def Car.isSl : Car → Bool
  | .sl .. => true
  | _ => false
omit [Dr] in
theorem unpack_sl : ∀ {cs : List Car} {r : CarsDen cs} {t : List AV} {H : List AB}, cs.all Car.isSl = true → unpackC cs r (t, H) = ((unpackC cs r (t, [])).1, H)
  | [], r, t, H, _ => rfl
  | [.sl _ _ _], r, t, H, _ => rfl
  | [.row _ _ _], r, t, H, h => by simp [Car.isSl] at h
  | [.blk _ _ _], r, t, H, h => by simp [Car.isSl] at h
  | [.rw _ _ _], r, t, H, h => by simp [Car.isSl] at h
  | [.mp _ _], r, t, H, h => by simp [Car.isSl] at h
  | [.opn _ _ _], r, t, H, h => by simp [Car.isSl] at h
  | [.cl _ _ _], r, t, H, h => by simp [Car.isSl] at h
  | [.crow _ _ _ _], r, t, H, h => by simp [Car.isSl] at h
  | .sl u ag T :: d :: l, r, t, H, h => by
    simp only [List.all_cons, Bool.and_eq_true] at h
    have := unpack_sl (cs := d :: l) (r := r.2) (t := t.set u (encV ag T r.1)) (H := H) (by simp only [List.all_cons, Bool.and_eq_true]; exact h.2)
    exact this
  | .row _ _ _ :: d :: l, r, t, H, h => by simp [Car.isSl] at h
  | .blk _ _ _ :: d :: l, r, t, H, h => by simp [Car.isSl] at h
  | .rw _ _ _ :: d :: l, r, t, H, h => by simp [Car.isSl] at h
  | .mp _ _ :: d :: l, r, t, H, h => by simp [Car.isSl] at h
  | .opn _ _ _ :: d :: l, r, t, H, h => by simp [Car.isSl] at h
  | .cl _ _ _ :: d :: l, r, t, H, h => by simp [Car.isSl] at h
  | .crow _ _ _ _ :: d :: l, r, t, H, h => by simp [Car.isSl] at h
theorem hdlV_ok {P : Program} {f : FuncId} {ps : List (Bool × Ty)} {rs : List Car} {F : ADen ps → Option (CarsDen rs)} (hsl : rs.all Car.isSl = true) (h : HdlOk P f (hdl ps rs F)) : HdlVOk P f (hdlV ps rs F) := by
  intro X args H k x hx
  unfold hdlV at hx
  split at hx
  case h_2 => cases hx
  rename_i y hy
  obtain ⟨r, h1, h2⟩ := Option.bind_eq_some_iff.1 hx
  refine ⟨_, h2, fun E σ τ β tm a w us hC hargs => ?_⟩
  have hx' : hdl ps rs F (List AB × AV) args H (fun H' av => some (H', av)) = some (H, oneOf (unpackC rs r (List.replicate rs.length .unk, [])).1) := by
    unfold hdl
    rw [hy]
    simp only [h1, Option.bind_some]
    rw [unpack_sl hsl]
  refine Calls.mono (h _ args H _ _ hx' E σ τ β tm a w us hC hargs) ?_
  rintro e w' ⟨v, σ', rfl, H', av, τ', β', hk, _, e1, e2, e3, e4⟩
  simp only [Option.some.injEq, Prod.mk.injEq] at hk
  obtain ⟨rfl, rfl⟩ := hk
  exact ⟨v, σ', rfl, τ', β', e1, e2, e3, e4⟩

section
variable {P : Program} {E E' : Env} {σ σ1 : Gh} {τ τ' : Nat → Nat} {w w1 : World} {β β' : List Value} {tm : List AV} {H : List AB} {a : Act}
theorem resL_sound (hC : Conc E σ τ β ⟨tm, H⟩ a w) : ∀ {l : List ResultVar} {vs : List AV}, resL P tm H l = some vs → ∃ us, (l.mapM (resRun a.tmps)).run P w = .ok us w ∧ RelL E σ w β vs us
  | [], vs, h => by
    simp only [resL, Option.some.injEq] at h
    subst h
    exact ⟨[], by simp, by simp [RelL]⟩
  | r :: l, vs, h => by
    simp only [resL] at h
    split at h
    · rename_i v vs' h1 h2
      obtain rfl := Option.some.inj h
      obtain ⟨u, e1, e2⟩ := resX_sound hC h1
      obtain ⟨us, e3, e4⟩ := resL_sound hC h2
      exact ⟨u :: us, by simp [List.mapM_cons, e1, e3], by simp only [RelL]; exact ⟨u, us, rfl, e2, e4⟩⟩
    · cases h
omit [Dr] in
theorem resL_len : ∀ {l : List ResultVar} {vs : List AV}, resL P tm H l = some vs → vs.length = l.length
  | [], vs, h => by
    simp only [resL, Option.some.injEq] at h
    subst h; rfl
  | r :: l, vs, h => by
    simp only [resL] at h
    split at h
    · rename_i v vs' h1 h2
      obtain rfl := Option.some.inj h
      simp [resL_len h2]
    · cases h
omit [Dr] in
theorem results_run {fn : Func} {tmps : Array Value} {us : List Value} (h : (fn.results.toList.mapM (resRun tmps)).run P w = .ok us w) : (results fn tmps).run P w = .ok (oneVal us) w := by
  have e : results fn tmps = (do let vs ← fn.results.mapM (resRun tmps); pure (if h : vs.size = 1 then vs[0] else .tuple vs)) := by
    unfold results; congr 1
  rw [e, Array.mapM_eq_mapM_toList]
  simp only [Sem.run_bind, Sem.run_map, h, Result.andThen_ok, Sem.run_pure]
  match us with
  | [] => simp [oneVal]
  | [u] => simp [oneVal]
  | u :: v :: l => simp [oneVal]
omit [Dr] in
theorem encArgs_len : ∀ (ps : List (Bool × Ty)) (y : ADen ps), (encArgs ps y).length = ps.length
  | [], y => rfl
  | [p], y => rfl
  | p :: q :: l, y => by simp only [encArgs, List.length_cons]; rw [encArgs_len (q :: l)]; rfl
omit [Dr] in
theorem carOk_any {H : List AB} {ds : List Tmp} {cs : List Car} (h : cs.all (carOk 0 [] ds) = true) : cs.all (carOk 0 H ds) = true := by
  rw [List.all_eq_true] at h ⊢
  intro c hc
  have := h c hc
  cases c <;> simp_all [carOk]
theorem relL_unks : ∀ {n : Nat} {us : List Value}, us.length = n → RelL E σ w β (List.replicate n .unk) us
  | 0, us, h => by simp only [List.replicate, RelL]; exact List.eq_nil_of_length_eq_zero h
  | n + 1, [], h => by simp at h
  | n + 1, u :: us, h => by simp only [List.replicate, RelL]; exact ⟨u, us, rfl, by simp [Rel], relL_unks (by simpa using h)⟩
theorem oneOf_rel : ∀ {vs : List AV} {us : List Value}, RelL E σ w β vs us → Rel E σ w β (oneOf vs) (oneVal us)
  | [], us, h => by
    simp only [RelL] at h
    subst h
    simp only [oneOf, oneVal, Rel]
    exact ⟨[], rfl, by simp [RelL]⟩
  | [v], us, h => by
    simp only [RelL] at h
    obtain ⟨u, r, rfl, h1, rfl⟩ := h
    exact h1
  | v :: v' :: l, us, h => by
    have h' := h
    simp only [RelL] at h
    obtain ⟨u, r, rfl, h1, u', r', rfl, h2, h3⟩ := h
    simp only [oneOf, oneVal, Rel]
    exact ⟨_, rfl, h'⟩

theorem hdl_ok {f : FuncId} {fn : Func} {c : Code} (hs : List (Hnd P)) (an : List LAnn) (ps : List (Bool × Ty)) (rs : List Car) (F : ADen ps → Option (CarsDen rs))
    (hf : P.funcs[f]? = some fn) (hb : fn.body = some c) (hl : fn.results.size = rs.length) (hok : rs.all (carOk 0 [] (List.range rs.length)) = true)
    (hF : ∀ y, exec P hs an (CarsDen rs) c (encArgs ps y ++ List.replicate (fn.ntmps - ps.length) (.val undef)) [] (finX P fn.results.toList rs) = F y) : HdlOk P f (hdl ps rs F) := by
  intro X args H k x h
  unfold hdl at h
  split at h
  case h_2 => cases h
  rename_i y hy
  obtain ⟨r, hr, hk⟩ := Option.bind_eq_some_iff.1 h
  obtain ⟨p1, p2, p3⟩ := unpack_pres (x := r) (s := (List.replicate rs.length .unk, H)) (carOk_any (H := H) hok)
  intro E σ τ β tm a w us hC hargs
  obtain ⟨r1, q1, q2⟩ := Gh.fresh σ (E.bnd + 1) w.heap.size
  obtain ⟨r0, q3, q4⟩ := Gh.fresh τ r1 H.length
  let E' : Env := ⟨fun t => t < r0, fun t => t < r0, r0, by show 0 < r0; omega, fun t h => h, fun t h => h⟩
  have hE : ∀ b, b < w.heap.size → E'.Pr (σ b) := fun b hb => by show σ b < r0; have := q2 b hb; omega
  have hargs' : RelL E' σ w [] (encArgs ps y) us := decArgs_rel hC hE hargs hy
  have hul : us.length = ps.length := by rw [hargs'.length, encArgs_len]
  have hC0 : Conc E' σ (fun i => r0 + i) [] ⟨encArgs ps y ++ List.replicate (fn.ntmps - ps.length) (.val undef), []⟩ { tmps := us.toArray ++ Array.replicate (fn.ntmps - us.toArray.size) undef, defers := [] } w := by
    refine ⟨rfl, ?_, rfl, fun i x v hx => by simp at hx, fun i x hx => by simp at hx, fun i j x y hx => by simp at hx⟩
    have e : (us.toArray ++ Array.replicate (fn.ntmps - us.toArray.size) undef).toList = us ++ List.replicate (fn.ntmps - ps.length) undef := by simp [hul]
    simp only [e]
    refine RelL.append hargs' ?_
    have := relL_vals (E := E') (σ := σ) (w := w) (β := []) (List.replicate (fn.ntmps - ps.length) undef)
    simpa using this
  refine calls_of_wp hf hb (exec_sound c (x := r) (by rw [hF y]; exact hr) hC0 (fun e tm' H' σ' τ' β' a' w' hk' hW hC' => ?_))
  have main : (match resL P tm' H' fn.results.toList with | some vs => (match frzVs vs H' with | some (vs', H') => packC rs vs' H' | none => none) | none => none) = some r → a'.defers = [] ∧ ∃ v, (results fn a'.tmps).run P w' = .ok v w' ∧
      ∃ v_1 σ', Ending.returned v = Ending.returned v_1 ∧ ∃ H'' av τ' β', k H'' av = some x ∧ HPres H H'' ∧ (∃ s, β' = β ++ s) ∧ EvT (Rng E) σ w σ' w' ∧ Conc E σ' τ' β' ⟨tm, H''⟩ a w' ∧ Rel E σ' w' β' av v_1 := by
    intro hm
    split at hm
    case h_2 => cases hm
    rename_i vs0 hvs
    split at hm
    case h_2 => cases hm
    rename_i vs H' hfz
    obtain ⟨us', e1, e2⟩ := resL_sound hC' hvs
    refine ⟨hC'.defers, oneVal us', results_run e1, oneVal us', ?_⟩
    have hus : us'.length = rs.length := by
      have := resL_len hvs
      rw [e2.length, this, Array.length_toList, hl]
    obtain ⟨_, σ', hevf, hC', e2⟩ := frzVs_sound hfz hC' e2
    refine ⟨σ', rfl, ?_⟩
    have hWev := hW.ev.trans hevf
    have hsub : ∀ t, E.Kp t → E'.Kp t := fun t ht => by show t < r0; have := E.low t ht; omega
    have hev : EvT (fun t => r0 ≤ t) σ w σ' w' := hWev.mono (fun t ht => Nat.le_of_not_lt ht)
    have hevE : EvT (Rng E) σ w σ' w' := hWev.mono (fun t ht hp => ht (hsub t hp))
    have hP : ∀ t, E.Pr t → ¬ r0 ≤ t := fun t ht => by have := E.low t (E.sub t ht); omega
    have hlive : ∀ (i : Nat) x, H[i]? = some x → ¬ r0 ≤ τ i := fun i x hx => by have := q4 i (List.getElem?_eq_some_iff.1 hx).1; omega
    have hbase : Conc E σ' τ β ⟨List.replicate rs.length .unk, H⟩ ⟨us'.toArray, []⟩ w' :=
      ⟨rfl, by simpa using relL_unks hus, hC.size, fun i x v hx hv => BRel.ev (hC.heap i x v hx hv) hev hP (fun _ => hlive i x hx), hC.apart, hC.inj⟩
    have hsrc : Conc E' σ' τ' β' ⟨vs, H'⟩ ⟨us'.toArray, []⟩ w' := ⟨rfl, by simpa using e2, hC'.size, hC'.heap, hC'.apart, hC'.inj⟩
    have hM : Mid E E' σ' w' ⟨us'.toArray, []⟩ τ β (List.replicate rs.length .unk) H τ' β' vs H' 0 :=
      ⟨hbase, hsub, hsrc, fun i x j y hx hlx hy hly _ he => by
        have h1 := hlive i x hx
        have h2 : ¬ τ' j < r0 := hC'.apart j y hy hly
        omega, fun i hi => by omega, fun i x hi => by omega, by omega⟩
    obtain ⟨τ2, β2, h1, h2⟩ := mid_all hM (carOk_ok (n := 0) hok) hm
    refine ⟨_, _, τ2, β2, hk, ⟨p2, fun i b hi => p3 i b _ hi hi⟩, h1, hevE, ⟨hC.defers, RelL.more h1 (RelL.ev hev hP hC.tmps), h2.size, h2.heap, h2.apart, h2.inj⟩, ?_⟩
    exact oneOf_rel (by simpa using h2.tmps)
  cases e with
  | normal => exact main hk'
  | ret => exact main hk'
  | _ => simp [finX] at hk'

/-- A function that is walked anew at each call: its arguments are whatever is known. -/
noncomputable def inl (P : Program) (hs : List (Hnd P)) (an : List LAnn) (fn : Func) (c : Code) (np : Nat) : Hdl := fun X args H k =>
  match Nat.beq args.length np with
  | true => exec P hs an X c (args ++ List.replicate (fn.ntmps - np) (.val undef)) H fun e tm' H' => match e with
    | .ret => match resL P tm' H' fn.results.toList with
      | some vs => k H' (oneOf vs)
      | none => none
    | .normal => match resL P tm' H' fn.results.toList with
      | some vs => k H' (oneOf vs)
      | none => none
    | _ => none
  | false => none
theorem inl_ok {f : FuncId} {fn : Func} {c : Code} (hs : List (Hnd P)) (an : List LAnn) (np : Nat) (hf : P.funcs[f]? = some fn) (hb : fn.body = some c) : HdlOk P f (inl P hs an fn c np) := by
  intro X args H k x h E σ τ β tm a w us hC hargs
  unfold inl at h
  split at h
  case h_2 => cases h
  rename_i hnp
  have hnp := Nat.eq_of_beq_eq_true hnp
  have hul : us.length = np := by rw [hargs.length, hnp]
  have hC0 : Conc E σ τ β ⟨args ++ List.replicate (fn.ntmps - np) (.val undef), H⟩ { tmps := us.toArray ++ Array.replicate (fn.ntmps - us.toArray.size) undef, defers := [] } w := by
    refine ⟨rfl, ?_, hC.size, hC.heap, hC.apart, hC.inj⟩
    have e : (us.toArray ++ Array.replicate (fn.ntmps - us.toArray.size) undef).toList = us ++ List.replicate (fn.ntmps - np) undef := by simp [hul]
    simp only [e]
    refine RelL.append hargs ?_
    have := relL_vals (E := E) (σ := σ) (w := w) (β := β) (List.replicate (fn.ntmps - np) undef)
    simpa using this
  refine calls_of_wp hf hb (exec_sound c h hC0 (fun e tm' H' σ' τ' β' a' w' hk' hW hC' => ?_))
  have main : (match resL P tm' H' fn.results.toList with | some vs => k H' (oneOf vs) | none => none) = some x → a'.defers = [] ∧ ∃ v, (results fn a'.tmps).run P w' = .ok v w' ∧
      ∃ v_1 σ', Ending.returned v = Ending.returned v_1 ∧ ∃ H'' av τ' β', k H'' av = some x ∧ HPres H H'' ∧ (∃ s, β' = β ++ s) ∧ EvT (Rng E) σ w σ' w' ∧ Conc E σ' τ' β' ⟨tm, H''⟩ a w' ∧ Rel E σ' w' β' av v_1 := by
    intro hm
    split at hm
    case h_2 => cases hm
    rename_i vs hvs
    obtain ⟨us', e1, e2⟩ := resL_sound hC' hvs
    refine ⟨hC'.defers, oneVal us', results_run e1, oneVal us', σ', rfl, H', oneOf vs, τ', β', hm, hW.heap, hW.more, hW.ev, ?_, oneOf_rel e2⟩
    have hP : ∀ t, E.Pr t → ¬ Rng E t := fun t ht h => h (E.sub t ht)
    exact ⟨hC.defers, RelL.more hW.more (RelL.ev hW.ev hP hC.tmps), hC'.size, hC'.heap, hC'.apart, hC'.inj⟩
  cases e with
  | normal => exact main hk'
  | ret => exact main hk'
  | _ => simp at hk'
end
end Go.Am
