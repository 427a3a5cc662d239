/- The abstract machine, part 24: a scope with one label, to which is jumped back. No statement of its own. -/
import Derived.Test.YtfhcockdlfidmaaAm12
import Derived.ScopeJumps
namespace Go.Am
open Go.Vk Go.RowKit
set_option linter.unusedVariables false
set_option linter.unusedSimpArgs false

/-- What stands behind the label. -/
def spl : Code → Option (Nat × Code)
  | .seq x y => match x with
    | .label l => some (l, y)
    | .region .. => spl y
    | _ => none
  | _ => none
theorem spl_find : ∀ {c : Code} {l : Nat} {R : Code}, spl c = some (l, R) → findLabel c l = some (.seq .skip R)
  | .seq x y, l, R, h => by
    simp only [spl] at h
    split at h
    · simp only [Option.some.injEq, Prod.mk.injEq] at h
      obtain ⟨rfl, rfl⟩ := h
      simp [findLabel]
    · simp only [findLabel]
      exact spl_find h
    · cases h
  | .skip, l, R, h => by simp [spl] at h
  | .region .., l, R, h => by simp [spl] at h
  | .cond .., l, R, h => by simp [spl] at h
  | .block .., l, R, h => by simp [spl] at h
  | .exit .., l, R, h => by simp [spl] at h
  | .loop .., l, R, h => by simp [spl] at h
  | .scope .., l, R, h => by simp [spl] at h
  | .label .., l, R, h => by simp [spl] at h
  | .goto .., l, R, h => by simp [spl] at h
  | .ret, l, R, h => by simp [spl] at h
  | .rangeFunc .., l, R, h => by simp [spl] at h
  | .refuse .., l, R, h => by simp [spl] at h
/-- Rounds that lead to an end. -/
def Rounds (P : Program) (l : Nat) (R : Code) (Q : Exit → Act → World → Prop) (n : Nat) (a : Act) (w : World) : Prop :=
  ∃ (S B : Type) (f : S → Option (S ⊕ B)) (Rel : S → Act → World → Prop) (s0 : S) (b : B), loopN f n s0 = some b ∧ Rel s0 a w ∧
    ∀ s a w, Rel s a w → ∀ o, f s = some o → R.wp P (Exit.jump l (fun a' w' => ∃ s', o = .inl s' ∧ Rel s' a' w') (fun e a' w' => ∃ b', o = .inr b' ∧ (b' = b → Q e a' w'))) a w
theorem rounds_pass {P : Program} {l : Nat} {R : Code} {Q : Exit → Act → World → Prop} {n : Nat} {a : Act} {w : World} (h : Rounds P l R Q n a w) :
    R.wp P (Exit.jump l (fun a' w' => ∃ m, m < n ∧ Rounds P l R Q m a' w') Q) a w := by
  obtain ⟨S, B, f, Rel, s0, b, hn, h0, hr⟩ := h
  cases n with
  | zero => simp [loopN] at hn
  | succ n =>
    simp only [loopN] at hn
    cases hf : f s0 with
    | none => simp [hf] at hn
    | some o =>
      simp only [hf, Option.bind_some] at hn
      refine Code.wp_mono ?_ (hr s0 a w h0 o hf)
      intro e a' w' q
      cases e with
      | goto l' =>
        obtain ⟨rfl, s', rfl, q⟩ := q
        exact ⟨rfl, n, Nat.lt_succ_self n, S, B, f, Rel, s', b, hn, q, hr⟩
      | _ =>
        obtain ⟨b', rfl, q⟩ := q
        exact q (by simpa using hn)
theorem least_of {p : Nat → Prop} (h : ∃ n, p n) : ∃ n, p n ∧ ∀ m, p m → n ≤ m := by
  obtain ⟨n, hn⟩ := h
  induction n using Nat.strongRecOn with
  | _ n ih =>
    by_cases hm : ∃ m, m < n ∧ p m
    · obtain ⟨m, h1, h2⟩ := hm
      exact ih m h1 h2
    · exact ⟨n, hn, fun m h2 => Nat.le_of_not_lt fun h1 => hm ⟨m, h1, h2⟩⟩
theorem wp_scope_rounds {P : Program} {c R : Code} {l : Nat} {Q : Exit → Act → World → Prop} {a : Act} {w : World} (hs : spl c = some (l, R))
    (first : ∀ Q', (∀ a w, (∃ n, Rounds P l R Q n a w) → R.wp P Q' a w) → c.wp P Q' a w) : (Code.scope c).wp P Q a w := by
  classical
  refine wp_scope_jumps (rest := .seq .skip R) l (fun a w => ∃ n, Rounds P l R Q n a w) (fun a w => if h : ∃ n, Rounds P l R Q n a w then (least_of h).choose else 0) (spl_find hs) ?_ ?_
  · refine first _ fun a w ⟨n, hn⟩ => Code.wp_mono ?_ (rounds_pass hn)
    intro e a' w' q
    cases e with
    | goto l' => exact ⟨q.1, q.2.imp fun m hm => hm.2⟩
    | _ => exact q
  · intro a w hJ
    refine wp_seq (wp_skip ?_)
    show R.wp P _ a w
    refine Code.wp_mono ?_ (rounds_pass (least_of hJ).choose_spec.1)
    intro e a' w' q
    cases e with
    | goto l' =>
      obtain ⟨q1, m, q2, q3⟩ := q
      refine ⟨q1, ⟨m, q3⟩, ?_⟩
      rw [dif_pos hJ, dif_pos ⟨m, q3⟩]
      exact Nat.lt_of_le_of_lt ((least_of ⟨m, q3⟩).choose_spec.2 m q3) q2
    | _ => exact q
variable [Dr]
noncomputable def preX (P : Program) (hs : List (Hnd P)) (an : List LAnn) (X : Type) : Code → List AV → List AB → (List AV → List AB → Option X) → Option X
  | .seq x y, tm, H, k => match x with
    | .label _ => k tm H
    | x => exec P hs an X x tm H fun e tm H => match e with
      | .normal => preX P hs an X y tm H k
      | _ => none
  | _, _, _, _ => none
noncomputable def loopL (P : Program) (hs : List (Hnd P)) (an : List LAnn) (X : Type) (l : Nat) (R : Code) (tm : List AV) (H : List AB) (k : Exit → List AV → List AB → Option X) : Option X :=
  match findA 4 l an with
  | none => none
  | some A =>
    let us := usedC tm H A.cs
    match A.cs.all (carOk H.length H (asgC R)), A.es.all (fun e => e.2.all (carOk H.length H (asgC R))), us.all (unlocked H) with
    | true, true, true => match packC A.cs tm (lockI us 0 H) with
      | none => none
      | some s0 =>
        (loopO (fun s => exec P hs an (CarsDen A.cs ⊕ ExDen A.es) R (unpackC A.cs s (killT (asgC R) tm, (goneI us 0 H).map .lock)).1 (unpackC A.cs s (killT (asgC R) tm, (goneI us 0 H).map .lock)).2
          fun e tm' H' => match e with
            | .goto l' => match Nat.beq l' l with
              | true => match packC A.cs tm' H' with
                | some s' => some (.inl s')
                | none => none
              | false => none
            | e => match packE A.es e tm' H' with
              | some b => some (.inr b)
              | none => none) s0).bind fun b => elimE A.es X b (killT (asgC R) tm, goneI us 0 H) k
    | _, _, _ => none

section
variable {P : Program} {E : Env} {hs : List (Hnd P)} {an : List LAnn}
theorem preX_sound {X : Type} {x : X} {l : Nat} {R : Code} {Q : Exit → Act → World → Prop} : ∀ {c : Code} {tm : List AV} {H : List AB} {σ : Gh} {τ : Nat → Nat} {β : List Value} {a : Act} {w : World} {k : List AV → List AB → Option X}, spl c = some (l, R) →
    preX P hs an X c tm H k = some x → Conc E σ τ β ⟨tm, H⟩ a w →
    (∀ tm' H' σ' τ' β' a' w', k tm' H' = some x → Went E (asgC c) σ β w tm H σ' β' w' tm' H' → Conc E σ' τ' β' ⟨tm', H'⟩ a' w' → R.wp P Q a' w') → c.wp P Q a w
  | .seq c d, tm, H, σ, τ, β, a, w, k, hs, h, hC, hQ => by
    simp only [spl] at hs
    split at hs
    · simp only [Option.some.injEq, Prod.mk.injEq] at hs
      obtain ⟨rfl, rfl⟩ := hs
      simp only [preX] at h
      exact wp_seq (wp_label (hQ _ _ _ _ _ _ _ h .refl hC))
    · rename_i i o dr
      simp only [preX] at h
      refine wp_seq (exec_sound _ h hC (fun e tm' H' σ' τ' β' a' w' hk hW hC' => ?_))
      have hW1 := hW.mono (ds' := asgC (.seq (.region i o dr) d)) (fun t ht => List.mem_append_left _ ht)
      split at hk
      · exact preX_sound hs hk hC' (fun tm'' H'' σ'' τ'' β'' a'' w'' hk' hW' hC'' => hQ _ _ _ _ _ _ _ hk' (hW1.trans (hW'.mono (fun t ht => List.mem_append_right _ ht))) hC'')
      · cases hk
    · cases hs
  | .skip, tm, H, σ, τ, β, a, w, k, hs, _, _, _ => by simp [spl] at hs
  | .region .., tm, H, σ, τ, β, a, w, k, hs, _, _, _ => by simp [spl] at hs
  | .cond .., tm, H, σ, τ, β, a, w, k, hs, _, _, _ => by simp [spl] at hs
  | .block .., tm, H, σ, τ, β, a, w, k, hs, _, _, _ => by simp [spl] at hs
  | .exit .., tm, H, σ, τ, β, a, w, k, hs, _, _, _ => by simp [spl] at hs
  | .loop .., tm, H, σ, τ, β, a, w, k, hs, _, _, _ => by simp [spl] at hs
  | .scope .., tm, H, σ, τ, β, a, w, k, hs, _, _, _ => by simp [spl] at hs
  | .label .., tm, H, σ, τ, β, a, w, k, hs, _, _, _ => by simp [spl] at hs
  | .goto .., tm, H, σ, τ, β, a, w, k, hs, _, _, _ => by simp [spl] at hs
  | .ret, tm, H, σ, τ, β, a, w, k, hs, _, _, _ => by simp [spl] at hs
  | .rangeFunc .., tm, H, σ, τ, β, a, w, k, hs, _, _, _ => by simp [spl] at hs
  | .refuse .., tm, H, σ, τ, β, a, w, k, hs, _, _, _ => by simp [spl] at hs
theorem loopL_sound {l : Nat} {R : Code} {tm : List AV} {H : List AB} {σ : Gh} {τ : Nat → Nat} {β : List Value} {a : Act} {w : World} {Q : Exit → Act → World → Prop} {X : Type} {x : X} {k : Exit → List AV → List AB → Option X}
    (h : loopL P hs an X l R tm H k = some x) (hC : Conc E σ τ β ⟨tm, H⟩ a w)
    (hQ : ∀ e tm' H' σ' τ' β' a' w', k e tm' H' = some x → Went E (asgC R) σ β w tm H σ' β' w' tm' H' → Conc E σ' τ' β' ⟨tm', H'⟩ a' w' → Q e a' w') : ∃ n, Rounds P l R Q n a w := by
  unfold loopL at h
  split at h
  · cases h
  rename_i A hA
  simp only at h
  split at h
  case h_2 => cases h
  rename_i hok1 hok2 hun
  split at h
  · cases h
  rename_i s0 hs0
  obtain ⟨b, hb, hel⟩ := Option.bind_eq_some_iff.1 h
  have hsz := hC.size
  simp only at hsz
  have hutm : ∀ (t : Nat) x, tm[t]? = some x → x.under β.length := fun t x hx => underL_get (RelL.under hC.tmps) hx
  have huh : ∀ (i : Nat) x, H[i]? = some x → x.under β.length := fun i x hx => by
    obtain ⟨v, hv⟩ : ∃ v, β[i]? = some v := ⟨_, List.getElem?_eq_getElem (by rw [hsz]; exact (List.getElem?_eq_some_iff.1 hx).1)⟩
    exact (hC.heap i x v hx hv).under
  have hgone : ∀ (i : Nat) y, (goneI (usedC tm H A.cs) 0 H)[i]? = some y → y.live = false ∨ (i ∉ usedC tm H A.cs ∧ H[i]? = some y) := by
    intro i y hy
    rw [goneI_get, Nat.zero_add] at hy
    cases hz : H[i]? with
    | none => rw [hz] at hy; simp at hy
    | some z =>
      rw [hz] at hy
      simp only [Option.map_some, Option.some.injEq] at hy
      by_cases hi : i ∈ usedC tm H A.cs
      · rw [if_pos hi] at hy; subst hy; exact .inl rfl
      · rw [if_neg hi] at hy; exact .inr ⟨hi, by rw [hy]⟩
  obtain ⟨n, hn⟩ := loopO_some hb
  refine ⟨n, _, _, _, (fun s a1 w1 => ∃ σ1 τ1 β1, EvT (Rng E) σ w σ1 w1 ∧ (∃ s', β1 = β ++ s') ∧ Conc E σ1 τ1 β1 ⟨(unpackC A.cs s (killT (asgC R) tm, (goneI (usedC tm H A.cs) 0 H).map .lock)).1, (unpackC A.cs s (killT (asgC R) tm, (goneI (usedC tm H A.cs) 0 H).map .lock)).2⟩ a1 w1), s0, b, hn, ?_, ?_⟩
  · have hM := mid_in (us := usedC tm H A.cs) (tm1 := killT (asgC R) tm) hC (killT_len _ _) (fun t x hx => (killT_get _ _ t x hx).imp id (fun h => h.1))
    rw [hsz] at hM
    obtain ⟨τ2, β2, h1, h2⟩ := mid_all hM (carOk_ok hok1) hs0
    exact ⟨σ, τ2, β2, .refl, h1, h2⟩
  · rintro s a1 w1 ⟨σ1, τ1, β1, hev1, ⟨s1, rfl⟩, hC1⟩ o ho
    refine exec_sound R ho hC1 (fun e tm' H' σ' τ' β' a' w' hk hW hC' => ?_)
    obtain ⟨s2, rfl⟩ := hW.more
    rw [List.append_assoc] at hC'
    have htm : ∀ (t : Nat) x, (killT (asgC R) tm)[t]? = some x → x = .unk ∨ (tm'[t]? = some x ∧ x.under β.length) := by
      intro t x hx
      rcases killT_get _ _ t x hx with h1 | ⟨h1, h2⟩
      · exact .inl h1
      · refine .inr ⟨?_, hutm t x h1⟩
        rw [hW.tmps.2 t h2, (unpack_pres hok1).1.2 t h2]
        exact hx
    have hlen : (killT (asgC R) tm).length = tm'.length := by rw [hW.tmps.1, (unpack_pres hok1).1.1]
    have hlock : ∀ (i : Nat) y, i ∉ usedC tm H A.cs → H[i]? = some y → H'[i]? = some (.lock y) := by
      intro i y hi hy
      refine hW.heap.2 i y ?_
      rw [unpack_keep (fun h => hi (blks_used h)) (by simp [goneI_len, (List.getElem?_eq_some_iff.1 hy).1])]
      rw [List.getElem?_map, goneI_get, Nat.zero_add, hy]
      simp [hi]
    have hev : EvT (Rng E) σ w σ' w' := hev1.trans hW.ev
    have exitCase : ∀ e', e' = e → (match packE A.es e' tm' H' with | some b => some (Sum.inr b) | none => (none : Option (CarsDen A.cs ⊕ ExDen A.es))) = some o → ∃ b', o = .inr b' ∧ (b' = b → Q e' a' w') := by
      rintro e' rfl hk
      split at hk
      · rename_i b' hb'
        obtain rfl := Option.some.inj hk
        refine ⟨b', rfl, ?_⟩
        rintro rfl
        obtain ⟨xc, x1, x2, z, x3, x4⟩ := packE_sound hb'
        rw [x4] at hel
        have hokx : xc.2.all (carOk H.length H (asgC R)) = true := List.all_eq_true.1 hok2 xc x1
        have hM := mid_of (tm1 := killT (asgC R) tm) (H1 := goneI (usedC tm H A.cs) 0 H) hC' hlen (by rw [goneI_len, hsz]) htm (fun i y hy => by
          rcases hgone i y hy with h1 | ⟨h1, h2⟩
          · exact .inl h1
          · exact .inr ⟨huh i y h2, y, hlock i y h1 h2, .inr rfl⟩)
        rw [hsz] at hM
        obtain ⟨τ3, β3, y1, y2⟩ := mid_all hM (carOk_ok hokx) x3
        refine hQ _ _ _ _ _ _ _ _ hel ⟨hev, y1, ⟨?_, fun i z' hz' => ?_⟩, ?_⟩ y2
        · have := (unpack_pres (x := z) (s := (killT (asgC R) tm, goneI (usedC tm H A.cs) 0 H)) hokx).2.1
          simp only [goneI_len] at this
          exact this
        · refine (unpack_pres (x := z) (s := (killT (asgC R) tm, goneI (usedC tm H A.cs) 0 H)) hokx).2.2 i z' _ hz' ?_
          simp only
          rw [goneI_get, Nat.zero_add, hz']
          have hni : i ∉ usedC tm H A.cs := fun hi => by
            have := List.all_eq_true.1 hun i hi
            unfold unlocked at this
            rw [hz'] at this
            cases this
          simp [hni]
        · have h1 := (unpack_pres (x := z) (s := (killT (asgC R) tm, goneI (usedC tm H A.cs) 0 H)) hokx).1
          refine ⟨by rw [h1.1]; exact killT_len _ _, fun t ht => ?_⟩
          rw [h1.2 t ht]
          exact killT_other _ _ t ht
      · cases hk
    cases e with
    | goto l' =>
      simp only at hk
      split at hk
      case h_2 => cases hk
      rename_i hl'
      split at hk
      · rename_i s' hs'
        obtain rfl := Option.some.inj hk
        have hM := mid_of (tm1 := killT (asgC R) tm) (H1 := (goneI (usedC tm H A.cs) 0 H).map .lock) hC' hlen (by simp [goneI_len, hsz]) htm (fun i y hy => by
          rw [List.getElem?_map] at hy
          obtain ⟨z, hz, rfl⟩ := Option.map_eq_some_iff.1 hy
          rcases hgone i z hz with h1 | ⟨h1, h2⟩
          · exact .inl h1
          · exact .inr ⟨huh i z h2, z, hlock i z h1 h2, .inl rfl⟩)
        rw [hsz] at hM
        obtain ⟨τ3, β3, y1, y2⟩ := mid_all hM (carOk_ok hok1) hs'
        exact ⟨Nat.eq_of_beq_eq_true hl', s', rfl, σ', τ3, β3, hev, y1, y2⟩
      · cases hk
    | exit id => exact exitCase _ rfl hk
    | normal => exact exitCase _ rfl hk
    | ret => exact exitCase _ rfl hk
    | panic ch => exact exitCase _ rfl hk
    | outgrown => exact exitCase _ rfl hk
end
/-- A function whose body is a scope with one label, walked anew at each call. -/
noncomputable def inlS (P : Program) (hs : List (Hnd P)) (an : List LAnn) (fn : Func) (r0 c : Code) (np : Nat) : Hdl := fun X args H k =>
  match Nat.beq args.length np, spl c with
  | true, some (l, R) => exec P hs an X r0 (args ++ List.replicate (fn.ntmps - np) (.val undef)) H fun e tm' H' => match e with
    | .normal => preX P hs an X c tm' H' fun tm' H' => loopL P hs an X l R tm' H' fun e tm' H' => match e with
      | .ret => match resL P tm' H' fn.results.toList with
        | some vs => k H' (oneOf vs)
        | none => none
      | .normal => match resL P tm' H' fn.results.toList with
        | some vs => k H' (oneOf vs)
        | none => none
      | _ => none
    | _ => none
  | _, _ => none
section
variable {P : Program}
theorem inlS_ok {f : FuncId} {fn : Func} {r0 c : Code} (hs : List (Hnd P)) (an : List LAnn) (np : Nat) (hf : P.funcs[f]? = some fn) (hb : fn.body = some (.seq r0 (.scope c))) : HdlOk P f (inlS P hs an fn r0 c np) := by
  intro X args H k x h E σ τ β tm a w us hC hargs
  unfold inlS at h
  split at h
  case h_2 => cases h
  rename_i l R hnp hsp
  have hnp := Nat.eq_of_beq_eq_true hnp
  have hul : us.length = np := by rw [hargs.length, hnp]
  have hC0 : Conc E σ τ β ⟨args ++ List.replicate (fn.ntmps - np) (.val undef), H⟩ { tmps := us.toArray ++ Array.replicate (fn.ntmps - us.toArray.size) undef, defers := [] } w := by
    refine ⟨rfl, ?_, hC.size, hC.heap, hC.apart, hC.inj⟩
    have e : (us.toArray ++ Array.replicate (fn.ntmps - us.toArray.size) undef).toList = us ++ List.replicate (fn.ntmps - np) undef := by simp [hul]
    simp only [e]
    refine RelL.append hargs ?_
    have := relL_vals (E := E) (σ := σ) (w := w) (β := β) (List.replicate (fn.ntmps - np) undef)
    simpa using this
  have main : ∀ {vs0 : Option (List AV)} {tm' : List AV} {H' : List AB} {σ' : Gh} {τ' : Nat → Nat} {β' : List Value} {a' : Act} {w' : World}, HPres H H' → (∃ s, β' = β ++ s) → EvT (Rng E) σ w σ' w' → Conc E σ' τ' β' ⟨tm', H'⟩ a' w' →
      (match resL P tm' H' fn.results.toList with | some vs => k H' (oneOf vs) | none => none) = some x → a'.defers = [] ∧ ∃ v, (results fn a'.tmps).run P w' = .ok v w' ∧
      ∃ v_1 σ', Ending.returned v = Ending.returned v_1 ∧ ∃ H'' av τ' β', k H'' av = some x ∧ HPres H H'' ∧ (∃ s, β' = β ++ s) ∧ EvT (Rng E) σ w σ' w' ∧ Conc E σ' τ' β' ⟨tm, H''⟩ a w' ∧ Rel E σ' w' β' av v_1 := by
    intro _ tm' H' σ' τ' β' a' w' hp hm hev hC' hr
    split at hr
    case h_2 => cases hr
    rename_i vs hvs
    obtain ⟨us', e1, e2⟩ := resL_sound hC' hvs
    refine ⟨hC'.defers, oneVal us', results_run e1, oneVal us', σ', rfl, H', oneOf vs, τ', β', hr, hp, hm, hev, ?_, oneOf_rel e2⟩
    have hP : ∀ t, E.Pr t → ¬ Rng E t := fun t ht h => h (E.sub t ht)
    exact ⟨hC.defers, RelL.more hm (RelL.ev hev hP hC.tmps), hC'.size, hC'.heap, hC'.apart, hC'.inj⟩
  refine calls_of_wp hf hb (wp_seq (exec_sound r0 h hC0 (fun e tm1 H1 σ1 τ1 β1 a1 w1 hk1 hW1 hC1 => ?_)))
  cases e with
  | normal =>
    refine wp_scope_rounds hsp (fun Q' hQ' => preX_sound hsp hk1 hC1 (fun tm2 H2 σ2 τ2 β2 a2 w2 hk2 hW2 hC2 => hQ' _ _ (loopL_sound hk2 hC2 (fun e tm3 H3 σ3 τ3 β3 a3 w3 hk3 hW3 hC3 => ?_))))
    have hH := hW1.heap.trans (hW2.heap.trans hW3.heap)
    have hm : ∃ s, β3 = β ++ s := by
      obtain ⟨s1, e1⟩ := hW1.more
      obtain ⟨s2, e2⟩ := hW2.more
      obtain ⟨s3, e3⟩ := hW3.more
      exact ⟨s1 ++ (s2 ++ s3), by rw [e3, e2, e1]; simp⟩
    have hev := hW1.ev.trans (hW2.ev.trans hW3.ev)
    cases e with
    | normal => exact main (vs0 := none) hH hm hev hC3 hk3
    | ret => exact main (vs0 := none) hH hm hev hC3 hk3
    | _ => simp at hk3
  | _ => simp at hk1
end
end Go.Am
