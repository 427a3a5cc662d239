/- The abstract machine, part 20: a region that draws its order, whatever it draws. No statement of its own. -/
import Derived.Test.YtfhcockdlfidmaaAm19
namespace Go.Am
open Go.Vk Go.RowKit
set_option linter.unusedVariables false
set_option linter.unusedSimpArgs false
variable [Dr]
section
variable {P : Program} {E : Env} {σ σ1 : Gh} {τ : Nat → Nat} {w w1 : World} {β : List Value} {tm : List AV} {H : List AB} {a : Act} {X : Type} {x : X} {hs : List (Hnd P)}
theorem draw_sound {l : List Oper} {m id : Nat} {k : List AV → List AB → Option X} {Q : Exit → Act → World → Prop} (hm : P.follows .mixedOrders = true) (hB : regionOk l m = true) (hml : m ≤ l.length)
    (hC : Conc E σ τ β ⟨tm, H⟩ a w) (hst : stageX P hs l (masks l []) tm X m k (m + 1) (List.replicate m false) (List.replicate m .unk) H = some x)
    (hQ : ∀ V H' σ' τ' β' a' w', k V H' = some x → V.length = m → (∃ s, β' = β ++ s) → EvT (Rng E) σ w σ' w' → HPres H H' → Conc E σ' τ' β' ⟨maskT (setA (allocL P 0 m l) V H').1 (2 ^ m - 1) m 0 l tm, (setA (allocL P 0 m l) V H').2⟩ a' w' → wpList P l.toArray Q (l.drop m) a' w') : (Code.region id l.toArray true).wp P Q a w := by
  have ha : a = ⟨a.tmps, []⟩ := by
    have := hC.defers
    cases a; simp_all
  rw [ha]
  have hsz := hC.size
  simp only at hsz
  obtain ⟨r, hr1, hr2⟩ := Gh.fresh τ E.bnd H.length
  let E1 : Env := ⟨E.Pr, fun t => E.Kp t ∨ (r ≤ t ∧ t < r + l.length), r + l.length, E.nought, fun t h => .inl (E.sub t h), fun t h => by
    rcases h with h | h
    · have := E.low t h; omega
    · omega⟩
  have hE1 : ∀ t, E.Pr t → E1.Pr t := fun t h => h
  have hE1' : ∀ t, E1.Pr t → E.Pr t := fun t h => h
  have hRng : ∀ t, Rng E1 t → Rng E t := fun t h h' => h (.inl h')
  have hevd : EvT (fun _ => False) σ w σ { w with drawn := w.drawn + 1 } := EvT.of (ev_drew σ w 1 1) (fun t h1 h2 => by omega)
  have hP1 : ∀ t, E1.Pr t → ¬ Rng E1 t := fun t ht h => h (E1.sub t ht)
  have c1 : Conc E1 σ τ β ⟨tm, H⟩ a { w with drawn := w.drawn + 1 } := by
    refine ⟨hC.defers, RelL.env hE1 (RelL.ev hevd (fun _ _ h => h) hC.tmps), hC.size, fun i x v hx hv => BRel.env hE1 (BRel.ev (hC.heap i x v hx hv) hevd (fun _ _ h => h) (fun _ h => h)), fun i x hx hl h => ?_, hC.inj⟩
    rcases h with h | h
    · exact hC.apart i x hx hl h
    · have := hr2 i (List.getElem?_eq_some_iff.1 hx).1
      omega
  let isA : Nat → Option (TypeId × Value) := fun q => (l[q]?).bind (allocX P)
  let PV : Gh → World → List Value → List AV → Nat → Value → Prop := fun σ w β vals q v => match isA q with
    | some p => ∃ n, v = .pointer (some ⟨n, 0, none⟩) ∧ Blk σ (r + q) w n p.1 p.2.cells
    | none => Rel E1 σ w β (vals.getD q .unk) v
  let Inv : (Nat → Bool) → (Nat → Value) → World → Prop := fun S vs w1 => ∃ σ1 τ1 β1 H1 dn vals f, EvT (Rng E) σ w σ1 w1 ∧ (∃ s, β1 = β ++ s) ∧ HPres H H1 ∧ Conc E1 σ1 τ1 β1 ⟨tm, H1⟩ a w1 ∧
    FS P l (masks l []) tm m S dn vals H1 ∧ (∀ q, S q = true → dn.getD q false = true) ∧ (∀ q o, l[q]? = some o → dn.getD q false = true → clsX hs o = true → S q = true) ∧
    (∀ q, S q = true → PV σ1 w1 β1 vals q (vs q)) ∧ restX P hs l (masks l []) tm X m (stageX P hs l (masks l []) tm X m k f) k H1 dn vals = some x
  have rels : ∀ {σ1 : Gh} {w1 : World} {β1 : List Value} {vals : List AV} {vs : Nat → Value} {S : Nat → Bool} {dn : List Bool} {H1 : List AB}, FS P l (masks l []) tm m S dn vals H1 → (∀ q, S q = true → PV σ1 w1 β1 vals q (vs q)) → ∀ q, S q = true → Rel E1 σ1 w1 β1 (vals.getD q .unk) (vs q) := by
    intro σ1 w1 β1 vals vs S dn H1 hF hV q hq
    have h1 := hV q hq
    simp only [PV] at h1
    cases hA : isA q with
    | none => rw [hA] at h1; exact h1
    | some p =>
      obtain ⟨o, ho, hp⟩ := Option.bind_eq_some_iff.1 hA
      rw [hF.al q o ho (by rw [hp]; simp)]
      simp [Rel]
  have stay : ∀ {σ1 σ' : Gh} {w1 w' : World} {β1 β' : List Value} {C : Nat → Prop} {vals vals' : List AV}, EvT C σ1 w1 σ' w' → (∀ t, C t → Rng E1 t) → (∃ s, β' = β1 ++ s) → ∀ q u, vals'.getD q .unk = vals.getD q .unk → PV σ1 w1 β1 vals q u → PV σ' w' β' vals' q u := by
    intro σ1 σ' w1 w' β1 β' C vals vals' hev' hc hb q u hq hu
    simp only [PV] at hu ⊢
    cases hA : isA q with
    | none => rw [hA] at hu; rw [hq]; exact Rel.more hb (Rel.ev (hev'.mono hc) hP1 hu)
    | some p =>
      rw [hA] at hu
      obtain ⟨n, e1, e2⟩ := hu
      have hjl : q < l.length := by
        obtain ⟨o', ho', _⟩ := Option.bind_eq_some_iff.1 hA
        exact (List.getElem?_eq_some_iff.1 ho').1
      exact ⟨n, e1, blk_evT e2 hev' (fun h => hc _ h (.inr ⟨by omega, by omega⟩))⟩
  -- a stage's start
  have start : ∀ {f : Nat} {dn : List Bool} {vals : List AV} {S : Nat → Bool} {vs : Nat → Value} {σ1 : Gh} {τ1 : Nat → Nat} {β1 : List Value} {H1 : List AB} {w1 : World}, stageX P hs l (masks l []) tm X m k f dn vals H1 = some x →
      EvT (Rng E) σ w σ1 w1 → (∃ s, β1 = β ++ s) → HPres H H1 → Conc E1 σ1 τ1 β1 ⟨tm, H1⟩ a w1 → FS P l (masks l []) tm m S dn vals H1 → (∀ q, S q = true → dn.getD q false = true) → (∀ q o, l[q]? = some o → dn.getD q false = true → clsX hs o = true → S q = true) →
      (∀ q, S q = true → PV σ1 w1 β1 vals q (vs q)) → Inv S vs w1 := by
    intro f dn vals S vs σ1 τ1 β1 H1 w1 h h1 h2 h3 h4 h5 h6 h7 h8
    cases f with
    | zero => simp [stageX] at h
    | succ f =>
      simp only [stageX] at h
      obtain ⟨dn', vals', g1, g2, g3, g4⟩ := segV_sound m 0 l h rfl (by omega) h5
      refine ⟨σ1, τ1, β1, H1, dn', vals', f, h1, h2, h3, h4, g2, fun q hq => (g3 q (h6 q hq)).1, fun q o ho hd hX => ?_, fun q hq => ?_, g1⟩
      · cases hdq : dn.getD q false with
        | true => exact h7 q o ho hdq hX
        | false => have := g4 q o ho hd hdq; rw [hX] at this; cases this
      · exact stay (C := fun _ => False) .refl (fun _ h => h.elim) ⟨[], by simp⟩ q _ (g3 q (h6 q hq)).2 (h8 q hq)
  refine wp_region_inv hm m hB hml Inv ?_ ?_ ?_
  · refine start (S := fun _ => false) (vs := fun _ => undef) hst (hevd.mono (fun _ h => h.elim)) ⟨[], by simp⟩ (.refl H) c1 ⟨by simp, by simp, fun q hq => ?_, fun q o _ hq => ?_, fun q o _ _ => ?_⟩ (fun _ h => by cases h) (fun q o _ hq => ?_) (fun _ h => by cases h)
    · rw [replF] at hq; cases hq
    · rw [replF] at hq; cases hq
    · exact replU
    · rw [replF] at hq; cases hq
  · rintro i o him ho T vs w1 hT hTi ⟨σ1, τ1, β1, H1, dn, vals, f, hev, hpre, hHP, hC1, hF, hA, hBX, hV, hR⟩
    have hframe : Conc E1 σ1 τ1 β1 ⟨maskT vals ((masks l []).getD i 0) i 0 l tm, H1⟩ ⟨slotsOf vs [] (fun q => decide (q < i)) 0 l a.tmps, []⟩ w1 :=
      ⟨rfl, maskT_rel l 0 hC1.tmps (fun q hq hb => by simpa using rels hF hV q (hT q hb)), hC1.size, hC1.heap, hC1.apart, hC1.inj⟩
    have hisA : isA i = allocX P o := by show (l[i]?).bind _ = _; rw [ho]; rfl
    have hTne : ∀ q, T q = true → q ≠ i := fun q hq e => by rw [e, hTi] at hq; cases hq
    cases hdi : dn.getD i false with
    | true =>
      have hf := (hF.fac i o ho hdi hTi).1 E1 σ1 τ1 β1 _ w1 hframe
      -- it stays as it is, but for what is there
      have done : ∀ {σ' : Gh} {w' : World} {τ' : Nat → Nat} {v : Value} {C : Nat → Prop}, EvT C σ1 w1 σ' w' → (∀ t, C t → Rng E1 t) → Conc E1 σ' τ' β1 ⟨tm, H1⟩ a w' → PV σ' w' β1 vals i v → Inv (fun q => if q = i then true else T q) (fun q => if q = i then v else vs q) w' := by
        intro σ' w' τ' v C hev' hc hC' hv
        refine ⟨σ', τ', β1, H1, dn, vals, f, hev.trans (hev'.mono (fun t h => hRng t (hc t h))), hpre, hHP, hC', ⟨hF.ld, hF.lv, hF.cl, fun q o' ho' hq hS => ?_, hF.al⟩, fun q hq => ?_, fun q o' ho' hd hX => ?_, fun q hq => ?_, hR⟩
        · try dsimp only at hq
          try dsimp only at hS
          try dsimp only
          by_cases hqi : q = i
          · rw [if_pos hqi] at hS; cases hS
          · rw [if_neg hqi] at hS; exact hF.fac q o' ho' hq hS
        · try dsimp only at hq
          try dsimp only at hS
          try dsimp only
          by_cases hqi : q = i
          · rw [hqi]; exact hdi
          · rw [if_neg hqi] at hq; exact hA q hq
        · try dsimp only at hq
          try dsimp only at hS
          try dsimp only
          by_cases hqi : q = i
          · rw [if_pos hqi]
          · rw [if_neg hqi]; exact hBX q o' ho' hd hX
        · try dsimp only at hq
          try dsimp only at hS
          try dsimp only
          by_cases hqi : q = i
          · subst hqi; rw [if_pos rfl]; exact hv
          · rw [if_neg hqi] at hq ⊢
            exact stay hev' hc ⟨[], by simp⟩ q _ rfl (hV q hq)
      split at hf
      · rename_i hw
        rw [hw]
        refine done (C := fun _ => False) .refl (fun _ h => h.elim) hC1 ?_
        simp only [PV]
        rw [hisA, hf.2, hf.1]
        simp [Rel]
      · rename_i hw
        rw [hw]
        cases hA' : allocX P o with
        | none =>
          refine OpGives.mono (hf hA') ?_
          rintro v σ' w' ⟨τ', β', ⟨s, rfl⟩, e1, e2, e3⟩
          have hs0 : s = [] := by
            have h1 := e2.size
            have h2 := hC1.size
            simp only [List.length_append] at h1 h2
            exact List.eq_nil_of_length_eq_zero (by omega)
          subst hs0
          rw [List.append_nil] at e2 e3
          refine done e1 (fun _ h => h) ⟨hC1.defers, RelL.ev e1 hP1 hC1.tmps, hC1.size, e2.heap, e2.apart, e2.inj⟩ ?_
          simp only [PV]
          rw [hisA, hA']
          exact e3
        | some p =>
          have hop : o.op = .alloc p.1 ∧ (P.info? p.1).bind (·.zero) = some p.2 := by
            unfold allocX at hA'
            split at hA'
            · rename_i T ho1 ho2
              split at hA'
              · rename_i z hz
                obtain rfl := Option.some.inj hA'
                exact ⟨ho1, hz⟩
              · cases hA'
            · cases hA'
          have hev' : EvT (fun _ => False) σ1 w1 (upd σ1 w1.heap.size (r + i)) { w1 with heap := w1.heap.push (.cells p.2.cells p.1) } := EvT.of (ev_alloc σ1 w1 _ (r + i) 1 1) (fun t h1 h2 => by omega)
          refine OpGives.val (v := .pointer (some ⟨w1.heap.size, 0, none⟩)) (upd σ1 w1.heap.size (r + i)) (w' := { w1 with heap := w1.heap.push (.cells p.2.cells p.1) }) ?_ (done hev' (fun _ h => h.elim) (hC1.grown hev' (fun _ h => h)) ?_)
          · obtain ⟨it, hi, hzz⟩ := Option.bind_eq_some_iff.1 hop.2
            simp [execOp, hop.1, Instr.alloc, zeroValue, typeInfo, hi, hzz, newVar, newRow, newObj, Sem.run]
          · simp only [PV]
            rw [hisA, hA']
            exact ⟨_, rfl, blk_alloc σ1 w1 p.2.cells p.1 (r + i)⟩
    | false =>
      rcases restX_sound hR with ⟨h1, _⟩ | ⟨nx, o', h1, h2, hA', h3⟩
      · have := firstND_none h1 hml i (Nat.zero_le _) (by omega)
        rw [hdi] at this; cases this
      · obtain ⟨_, g1, g2, g3, g4⟩ := firstND_some h1
        rw [Nat.sub_zero] at g2
        have hne : i = nx := by
          apply Classical.byContradiction
          intro hne
          have := (chkX_of h2 i o (Nat.zero_le _) (by omega) (by rw [Nat.sub_zero]; exact ho) hne).2 hdi
          have := hA nx (hT nx this)
          rw [g3] at this; cases this
        subst hne
        have hoo : o' = o := by rw [ho] at g2; exact (Option.some.inj g2).symm
        subst hoo
        have hnx := h3 E1 σ1 τ1 β1 _ w1 hframe
        -- behind it
        have next : ∀ {σ' : Gh} {w' : World} {τ' : Nat → Nat} {β' : List Value} {H' : List AB} {av : AV} {v : Value} {C : Nat → Prop}, stageX P hs l (masks l []) tm X m k f (dn.set i true) (vals.set i av) H' = some x → (allocX P o' ≠ none → av = .unk) → (H' = H1 ∨ (reX P hs l (masks l []) tm dn vals i (clsE o') (stB (maskT vals ((masks l []).getD i 0) i 0 l tm) o') H' 0 l m = true ∧ ∀ r, stB (maskT vals ((masks l []).getD i 0) i 0 l tm) o' = some r → ∀ j, j ≠ r → H'[j]? = H1[j]?)) → (clsE o' = true → MapEq P H1 H') → EvT C σ1 w1 σ' w' → (∀ t, C t → Rng E1 t) → (∃ s, β' = β1 ++ s) → HPres H1 H' →
            Conc E1 σ' τ' β' ⟨tm, H'⟩ a w' → PV σ' w' β' (vals.set i av) i v → Inv (fun q => if q = i then true else T q) (fun q => if q = i then v else vs q) w' := by
          intro σ' w' τ' β' H' av v C hst' hal hre hmq hev' hc hb hHP' hC' hv
          have gd : ∀ q, (dn.set i true).getD q false = if q = i then true else dn.getD q false := fun q => getD_set (by rw [hF.ld]; exact him)
          have gv : ∀ q, (vals.set i av).getD q .unk = if q = i then av else vals.getD q .unk := fun q => getD_set (by rw [hF.lv]; exact him)
          refine start hst' (hev.trans (hev'.mono (fun t h => hRng t (hc t h)))) ?_ (hHP.trans hHP') hC' (hF.step him hdi (fun j hj hb => g4 j (Nat.zero_le _) hj) (fun o'' ho'' ha => by rw [ho] at ho''; obtain rfl := Option.some.inj ho''; exact hal ha) (fun q o'' ho'' hq hqi hS => ?_) (fun o'' _ hS => ?_)) (fun q hq => ?_) (fun q o'' ho'' hd hX => ?_) (fun q hq => ?_)
          · obtain ⟨s, rfl⟩ := hpre
            obtain ⟨s', rfl⟩ := hb
            exact ⟨s ++ s', by simp⟩
          · rw [if_neg hqi] at hS
            refine ⟨hS, ?_⟩
            rcases hre with hre | ⟨hre, hst0⟩
            · exact .inl hre
            refine .inr ?_
            rcases reX_of hre q o'' (Nat.zero_le _) (by
              rcases Nat.lt_or_ge q m with h | h
              · omega
              · rw [List.getD_eq_getElem?_getD, List.getElem?_eq_none (by rw [hF.ld]; exact h)] at hq; cases hq) (by rw [Nat.sub_zero]; exact ho'') hqi hq with h | h | h | h | h | h
            · have := hBX q o'' ho'' hq h
              rw [hS] at this; cases this
            · exact .inl h
            · exact .inr (.inl ⟨h.1, hmq h.2⟩)
            · have := hT q h
              rw [hS] at this; cases this
            · exact .inr (.inr (.inl (reL_fac h)))
            · obtain ⟨r0, ob, g1, g2, g3⟩ := offL_of h
              exact .inr (.inr (.inr ⟨ob, g2, fun b hb => hst0 r0 g1 b (g3 b hb)⟩))
          · rw [if_pos rfl] at hS; cases hS
          · rw [gd]
            try dsimp only at hq
            try dsimp only at hS
            try dsimp only
            by_cases hqi : q = i
            · rw [if_pos hqi]
            · rw [if_neg hqi] at hq ⊢; exact hA q hq
          · rw [gd] at hd
            try dsimp only at hq
            try dsimp only at hS
            try dsimp only
            by_cases hqi : q = i
            · rw [if_pos hqi]
            · rw [if_neg hqi] at hd ⊢; exact hBX q o'' ho'' hd hX
          · try dsimp only at hq
            try dsimp only at hS
            try dsimp only
            by_cases hqi : q = i
            · subst hqi; rw [if_pos rfl]; exact hv
            · rw [if_neg hqi] at hq ⊢
              exact stay hev' hc hb q _ (by rw [gv, if_neg hqi]) (hV q hq)
        have gvi : ∀ av, (vals.set i av).getD i .unk = av := fun av => by rw [getD_set (by rw [hF.lv]; exact him), if_pos rfl]
        split at hnx
        · rename_i hw
          rw [hw]
          refine next (C := fun _ => False) hnx (fun h => absurd hA' h) (.inl rfl) (fun _ => .refl H1) .refl (fun _ h => h.elim) ⟨[], by simp⟩ (.refl H1) hC1 ?_
          simp only [PV]
          rw [hisA, hA', gvi]
          simp [Rel]
        · rename_i hw
          rw [hw]
          refine OpGives.mono hnx ?_
          rintro v σ' w' ⟨H', av, τ', β', e0, er, es, em, e1, e2, e3, e4, e5⟩
          refine next e0 (fun h => absurd hA' h) (.inr ⟨er, es⟩) em e3 (fun _ h => h) e2 e1 ⟨hC1.defers, RelL.more e2 (RelL.ev e3 hP1 hC1.tmps), e4.size, e4.heap, e4.apart, e4.inj⟩ ?_
          simp only [PV]
          rw [hisA, hA', gvi]
          exact e5
  · rintro vs w1 ⟨σ1, τ1, β1, H1, dn, vals, f, hev, hpre, hHP, hC1, hF, hA, hBX, hV, hR⟩
    have hk : k vals H1 = some x := by
      rcases restX_sound hR with ⟨_, h⟩ | ⟨nx, o', h1, _, _, _⟩
      · exact h
      · obtain ⟨_, g1, _, g3, _⟩ := firstND_some h1
        have := hA nx (by simpa using g1)
        rw [g3] at this; cases this
    have hC2 : Conc E σ1 τ1 β1 ⟨tm, H1⟩ a w1 := ⟨hC1.defers, RelL.env hE1' hC1.tmps, hC1.size, fun i x v hx hv => BRel.env hE1' (hC1.heap i x v hx hv), fun i x hx hl h => hC1.apart i x hx hl (.inl h), hC1.inj⟩
    have hrel := fun q (hq : q < m) => rels hF hV q (by simpa using hq)
    obtain ⟨τ', β', ⟨s', e0⟩, e1, e2⟩ := setA_sound (r := r) (m := m) (vs := vs) (allocL P 0 m l) hC2 hF.lv (fun e he => by have := (allocL_ge he).2.1; omega) allocL_pw hr1
      (fun e he => by
        obtain ⟨g1, g2, o, g3, g4⟩ := allocL_ge he
        rw [Nat.sub_zero] at g3
        have g6 := hV e.1 (by simp; omega)
        have hisA : isA e.1 = some e.2 := by show (l[e.1]?).bind _ = _; rw [g3]; exact g4
        simp only [PV] at g6
        rw [hisA] at g6
        exact g6)
      (fun i x hx hl e he h => hC1.apart i x hx hl (.inr ⟨by rw [h]; omega, by rw [h]; have := (allocL_ge he).2.1; have := Nat.lt_of_lt_of_le this (show 0 + m ≤ l.length by omega); omega⟩))
      (fun q hq _ => Rel.env hE1' (hrel q hq))
    refine hQ vals H1 σ1 τ' β' _ w1 hk hF.lv ?_ hev hHP ⟨rfl, maskT_rel l 0 e1.tmps (fun q hq _ => by simpa using e2 q hq), e1.size, e1.heap, e1.apart, e1.inj⟩
    obtain ⟨s, rfl⟩ := hpre
    exact ⟨s ++ s', by rw [e0, List.append_assoc]⟩

/-- A region that draws its order. -/
def regD (P : Program) (hs : List (Hnd P)) (l : List Oper) (X : Type) (tm : List AV) (H : List AB) (k : List AV → List AB → Option X) : Option X :=
  match regionOk l (mOf (masks l []) l.length), P.follows .mixedOrders, Nat.ble (mOf (masks l []) l.length) l.length with
  | true, true, true => stageX P hs l (masks l []) tm X (mOf (masks l []) l.length) (fun V H => regX P hs l X (l.drop (mOf (masks l []) l.length)) (maskT (setA (allocL P 0 (mOf (masks l []) l.length) l) V H).1 (2 ^ (mOf (masks l []) l.length) - 1) (mOf (masks l []) l.length) 0 l tm) (setA (allocL P 0 (mOf (masks l []) l.length) l) V H).2 k)
      (mOf (masks l []) l.length + 1) (List.replicate (mOf (masks l []) l.length) false) (List.replicate (mOf (masks l []) l.length) .unk) H
  | _, _, _ => none
theorem regD_sound {l : List Oper} {id : Nat} {Q : Exit → Act → World → Prop} {k : List AV → List AB → Option X} (h : regD P hs l X tm H k = some x) (hC : Conc E σ τ β ⟨tm, H⟩ a w)
    (hQ : ∀ tm' H' σ' τ' β' a' w', k tm' H' = some x → Went E (dsts l l) σ β w tm H σ' β' w' tm' H' → Conc E σ' τ' β' ⟨tm', H'⟩ a' w' → Q .normal a' w') : (Code.region id l.toArray true).wp P Q a w := by
  unfold regD at h
  split at h
  · rename_i hB hm hle
    refine draw_sound hm hB (Nat.le_of_ble_eq_true hle) hC h (fun V H1 σ' τ' β' a' w' h1 hVl hmore hev hHP hC' => ?_)
    exact regX_sound _ h1 hC' (fun tm' H' σ'' τ'' β'' a'' w'' hk hW hC'' => hQ _ _ _ _ _ _ _ hk (Went.trans ⟨hev, hmore, hHP.trans (setA_pres _ _ _), maskT_pres l 0 tm⟩ (hW.mono (fun t ht => dsts_drop l _ ht))) hC'')
  · cases h
end
end Go.Am
