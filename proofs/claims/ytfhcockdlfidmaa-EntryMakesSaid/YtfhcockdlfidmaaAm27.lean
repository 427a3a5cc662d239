/- The abstract machine, part 27: calls that are handed a pointer to what they may change. No statement of its own. -/
import Derived.Test.YtfhcockdlfidmaaAm26
namespace Go.Am
open Go.Vk Go.RowKit
set_option linter.unusedVariables false
set_option linter.unusedSimpArgs false

@[reducible] def RDen : List (Bool × DT) → Type
  | [] => Unit
  | [r] => r.2.Den
  | r :: q :: l => r.2.Den × RDen (q :: l)
def packV (ag : Bool) (d : DT) (v : AV) (H : List AB) : Option (d.Den × List AB) :=
  match ag with
  | true => match v with
    | .agg cs => match packD d cs H with
      | some (y, [], H') => some (y, H')
      | _ => none
    | .val (.agg vs) => match packD d (vs.toList.map .val) H with
      | some (y, [], H') => some (y, H')
      | _ => none
    | _ => none
  | false => match packD d [v] H with
    | some (y, [], H') => some (y, H')
    | _ => none
def unpackV (ag : Bool) (d : DT) (y : d.Den) (H : List AB) : AV × List AB :=
  match ag with
  | true => (.agg (unpackD d y H).1, (unpackD d y H).2)
  | false => ((unpackD d y H).1.headD .unk, (unpackD d y H).2)
def packR : (rs : List (Bool × DT)) → List AV → List AB → Option (RDen rs)
  | [], [], _ => some ()
  | [r], [v], H => match packV r.1 r.2 v H with
    | some (y, _) => some y
    | none => none
  | r :: q :: l, v :: vs, H => match packV r.1 r.2 v H with
    | some (y, H') => match packR (q :: l) vs H' with
      | some z => some (y, z)
      | none => none
    | none => none
  | _, _, _ => none
def unpackR : (rs : List (Bool × DT)) → RDen rs → List AB → List AV × List AB
  | [], _, H => ([], H)
  | [r], y, H => ([(unpackV r.1 r.2 y H).1], (unpackV r.1 r.2 y H).2)
  | r :: q :: l, y, H => ((unpackV r.1 r.2 y.1 H).1 :: (unpackR (q :: l) y.2 (unpackV r.1 r.2 y.1 H).2).1, (unpackR (q :: l) y.2 (unpackV r.1 r.2 y.1 H).2).2)
def oneA : List AV → AV
  | [v] => v
  | vs => .tup vs
/-- A block that is made anew where it was. -/
def unpackB (b : Nat) (C : TypeId) (d : DT) (s : d.Den) (H : List AB) : List AB :=
  (unpackD d s (H.set b (.cells C (List.replicate d.sz .unk)))).2.set b (.cells C (unpackD d s (H.set b (.cells C (List.replicate d.sz .unk)))).1)
/-- Cells, their rows frozen where a value is wanted. -/
def frzD : DT → List AV → List AB → Option (List AV × List AV × List AB)
  | .flat T, cs, H => match frzL (cs.take T.sz) H with
    | some (l, H') => some (l, cs.drop T.sz, H')
    | none => none
  | .pair p q, cs, H => match frzD p cs H with
    | some (x, l, H1) => match frzD q l H1 with
      | some (y, l', H2) => some (x ++ y, l', H2)
      | none => none
    | none => none
  | .row _ _, c :: cs, H => some ([c], cs, H)
  | .map _, c :: cs, H => some ([c], cs, H)
  | .ptr _ _, c :: cs, H => some ([c], cs, H)
  | _, [], _ => none
def frzB (b : Nat) (d : DT) (H : List AB) : Option (List AB) :=
  match (H[b]? : Option AB) with
  | some (.cells C cs) => match frzD d cs H with
    | some (cs', [], H1) => match (H1[b]? : Option AB) with
      | some (.cells C' _) => match natEq C' C with
        | some _ => some (H1.set b (.cells C cs'))
        | none => none
      | _ => none
    | _ => none
  | _ => none
def endP (P : Program) (res : List ResultVar) (C : TypeId) (d : DT) (rs : List (Bool × DT)) (tm : List AV) (H : List AB) : Option (d.Den × RDen rs) :=
  match resL P tm H res with
  | some vs => match frzVs vs H with
    | some (vs', H0) => match frzB 0 d H0 with
      | some H' => match (H'[0]? : Option AB) with
        | some (.cells C' cs) => match natEq C' C, packD d cs (H'.set 0 .gone) with
          | some _, some (s, [], H'') => match packR rs vs' H'' with
            | some r => some (s, r)
            | none => none
          | _, _ => none
        | _ => none
      | none => none
    | none => none
  | none => none
def finP (P : Program) (res : List ResultVar) (C : TypeId) (d : DT) (rs : List (Bool × DT)) (e : Exit) (tm : List AV) (H : List AB) : Option (d.Den × RDen rs) :=
  match e with
  | .ret => endP P res C d rs tm H
  | .normal => endP P res C d rs tm H
  | _ => none
/-- A call with a pointer ahead of its arguments. -/
def hdlP0 (C : TypeId) (d : DT) (ps : List (Bool × Ty)) (rs : List (Bool × DT)) (F : d.Den → ADen ps → Option (d.Den × RDen rs)) : Hdl := fun X args H k =>
  match args with
  | .ptr b 0 :: l => match packD (.ptr C d) [.ptr b 0] H with
    | some (s, _, H') => match decArgs H' ps l with
      | some y => (F s y).bind fun r => k (unpackR rs r.2 (unpackB b C d r.1 H')).2 (oneA (unpackR rs r.2 (unpackB b C d r.1 H')).1)
      | none => none
    | none => none
  | _ => none

def hdlP (C : TypeId) (d : DT) (ps : List (Bool × Ty)) (rs : List (Bool × DT)) (F : d.Den → ADen ps → Option (d.Den × RDen rs)) : Hdl := fun X args H k =>
  match args with
  | .ptr b 0 :: l => match frzB b d H with
    | some H0 => hdlP0 C d ps rs F X (.ptr b 0 :: l) H0 k
    | none => none
  | _ => none

variable [Dr]
section
variable {P : Program} {E E' : Env} {σ σ1 : Gh} {τ τ' : Nat → Nat} {w w1 : World} {β β' : List Value} {tm : List AV} {H : List AB} {a : Act}
theorem oneA_rel : ∀ {vs : List AV} {us : List Value}, RelL E σ w β vs us → Rel E σ w β (oneA vs) (oneVal us)
  | [], us, h => by
    simp only [RelL] at h
    subst h
    simp only [oneA, oneVal, Rel]
    exact ⟨[], rfl, by simp [RelL]⟩
  | [v], us, h => by
    simp only [RelL] at h
    obtain ⟨u, r, rfl, h1, rfl⟩ := h
    exact h1
  | v :: v' :: l, us, h => by
    have h' := h
    simp only [RelL] at h
    obtain ⟨u, r, rfl, h1, u', r', rfl, h2, h3⟩ := h
    simp only [oneA, oneVal, Rel]
    exact ⟨_, rfl, h'⟩
theorem frzD_sound : ∀ {d : DT} {cs x l : List AV} {H H' : List AB} {σ : Gh} {us : List Value}, frzD d cs H = some (x, l, H') → Conc E σ τ β ⟨tm, H⟩ a w → RelL E σ w β cs us →
    HPres H H' ∧ ∃ σ', EvT (Rng E) σ w σ' w ∧ Conc E σ' τ β ⟨tm, H'⟩ a w ∧ ∃ us1 us2, us = us1 ++ us2 ∧ RelL E σ' w β x us1 ∧ RelL E σ' w β l us2
  | .flat T, cs, x, l, H, H', σ, us, h, hC, hr => by
    have hP : ∀ t, E.Pr t → ¬ Rng E t := fun t ht h => h (E.sub t ht)
    simp only [frzD] at h
    split at h
    · rename_i l1 H1 hf
      simp only [Option.some.injEq, Prod.mk.injEq] at h
      obtain ⟨rfl, rfl, rfl⟩ := h
      obtain ⟨g0, σ2, g1, g2, g3⟩ := frzL_sound hf hC (RelL.take T.sz hr)
      exact ⟨g0, σ2, g1, g2, _, _, (List.take_append_drop T.sz us).symm, g3, RelL.ev g1 hP (RelL.drop T.sz hr)⟩
    · cases h
  | .pair p q, cs, x, l, H, H', σ, us, h, hC, hr => by
    have hP : ∀ t, E.Pr t → ¬ Rng E t := fun t ht h => h (E.sub t ht)
    simp only [frzD] at h
    split at h
    · rename_i x1 l1 H1 h1
      split at h
      · rename_i y l2 H2 h2
        simp only [Option.some.injEq, Prod.mk.injEq] at h
        obtain ⟨rfl, rfl, rfl⟩ := h
        obtain ⟨g0, σ1, g1, g2, us1, us2, rfl, g3, g4⟩ := frzD_sound h1 hC hr
        obtain ⟨f0, σ2, f1, f2, us3, us4, rfl, f3, f4⟩ := frzD_sound h2 g2 g4
        exact ⟨g0.trans f0, σ2, g1.trans f1, f2, us1 ++ us3, us4, by simp, RelL.append (RelL.ev f1 hP g3) f3, f4⟩
      · cases h
    · cases h
  | .row _ _, [], x, l, H, H', σ, us, h, hC, hr => by simp [frzD] at h
  | .map _, [], x, l, H, H', σ, us, h, hC, hr => by simp [frzD] at h
  | .ptr _ _, [], x, l, H, H', σ, us, h, hC, hr => by simp [frzD] at h
  | .row _ _, c :: cs, x, l, H, H', σ, us, h, hC, hr => by
    simp only [frzD, Option.some.injEq, Prod.mk.injEq] at h
    obtain ⟨rfl, rfl, rfl⟩ := h
    simp only [RelL] at hr
    obtain ⟨v, u, rfl, h2, h3⟩ := hr
    exact ⟨.refl _, σ, .refl, hC, [v], u, rfl, by simp only [RelL]; exact ⟨v, [], rfl, h2, rfl⟩, h3⟩
  | .map _, c :: cs, x, l, H, H', σ, us, h, hC, hr => by
    simp only [frzD, Option.some.injEq, Prod.mk.injEq] at h
    obtain ⟨rfl, rfl, rfl⟩ := h
    simp only [RelL] at hr
    obtain ⟨v, u, rfl, h2, h3⟩ := hr
    exact ⟨.refl _, σ, .refl, hC, [v], u, rfl, by simp only [RelL]; exact ⟨v, [], rfl, h2, rfl⟩, h3⟩
  | .ptr _ _, c :: cs, x, l, H, H', σ, us, h, hC, hr => by
    simp only [frzD, Option.some.injEq, Prod.mk.injEq] at h
    obtain ⟨rfl, rfl, rfl⟩ := h
    simp only [RelL] at hr
    obtain ⟨v, u, rfl, h2, h3⟩ := hr
    exact ⟨.refl _, σ, .refl, hC, [v], u, rfl, by simp only [RelL]; exact ⟨v, [], rfl, h2, rfl⟩, h3⟩
theorem frzB_sound {b : Nat} {d : DT} {H' : List AB} (h : frzB b d H = some H') (hC : Conc E σ τ β ⟨tm, H⟩ a w) : HPres H H' ∧ ∃ σ', EvT (Rng E) σ w σ' w ∧ Conc E σ' τ β ⟨tm, H'⟩ a w := by
  unfold frzB at h
  split at h
  case h_2 => cases h
  rename_i C cs hb
  split at h
  case h_2 => cases h
  rename_i cs' H1 hf
  split at h
  case h_2 => cases h
  rename_i C' cs0 hb1
  split at h
  case h_2 => cases h
  rename_i pC _
  obtain ⟨hCC⟩ := pC
  subst hCC
  obtain rfl := Option.some.inj h
  obtain ⟨v, hv⟩ : ∃ v, β[b]? = some v := ⟨_, List.getElem?_eq_getElem (by rw [hC.size]; exact (List.getElem?_eq_some_iff.1 hb).1)⟩
  obtain ⟨n, vs, e1, e2, e3⟩ := hC.heap b _ v hb hv
  obtain ⟨g0, σ1, g1, g2, us1, us2, rfl, g3, g4⟩ := frzD_sound hf hC e3
  simp only [RelL] at g4
  subst g4
  rw [List.append_nil] at e2
  subst e1
  obtain ⟨n', vs', k1, k2, k3⟩ := g2.heap b _ _ hb1 hv
  simp only [Value.pointer.injEq, Option.some.injEq, Addr.mk.injEq] at k1
  obtain ⟨rfl, _⟩ := k1
  have hvs : us1 = vs' := by
    have := e2.2.symm.trans k2.2
    simpa using this
  subst hvs
  exact ⟨g0.trans (.set hb1 (fun y => by simp)), σ1, g1, conc_refine g2 hb1 hv k2 g3⟩
/-- A block comes back. -/
theorem conc_back {b t : Nat} {v : Value} {x : AB} (hC : Conc E σ τ β ⟨tm, H⟩ a w) (hb : H[b]? = some .gone) (hv : β[b]? = some v) (hB : BRel E σ w β t v x) (hP : ¬ E.Kp t) (ht : ∀ (i : Nat) y, H[i]? = some y → y.live = true → τ i ≠ t) :
    Conc E σ (updT τ b t) β ⟨tm, H.set b x⟩ a w := by
  have hset : ∀ (i : Nat) (y : AB), (H.set b x)[i]? = some y → (H[i]? = some y ∧ i ≠ b ∧ updT τ b t i = τ i) ∨ (i = b ∧ y = x ∧ updT τ b t i = t) := by
    intro i y hy
    rw [List.getElem?_set] at hy
    by_cases hij : b = i
    · rw [if_pos hij] at hy
      split at hy
      · exact .inr ⟨hij.symm, (Option.some.inj hy).symm, by simp [updT, hij]⟩
      · cases hy
    · rw [if_neg hij] at hy
      exact .inl ⟨hy, fun h => hij h.symm, by simp only [updT]; rw [if_neg (fun h => hij h.symm)]⟩
  refine ⟨hC.defers, hC.tmps, by rw [hC.size]; simp, fun i y u hy hu => ?_, fun i y hy hl => ?_, fun i j y z hy hz hl hk he => ?_⟩
  · rcases hset i y hy with ⟨h1, _, h3⟩ | ⟨rfl, rfl, h3⟩
    · rw [h3]; exact hC.heap i y u h1 hu
    · rw [hv] at hu
      obtain rfl := Option.some.inj hu
      rw [h3]; exact hB
  · rcases hset i y hy with ⟨h1, _, h3⟩ | ⟨rfl, rfl, h3⟩
    · rw [h3]; exact hC.apart i y h1 hl
    · rw [h3]; exact hP
  · rcases hset i y hy with ⟨h1, _, h3⟩ | ⟨rfl, rfl, h3⟩
    · rcases hset j z hz with ⟨k1, _, k3⟩ | ⟨rfl, rfl, k3⟩
      · rw [h3, k3] at he; exact hC.inj i j y z h1 k1 hl hk he
      · rw [h3, k3] at he; exact absurd he (ht i y h1 hl)
    · rcases hset j z hz with ⟨k1, _, k3⟩ | ⟨rfl, rfl, k3⟩
      · rw [h3, k3] at he; exact absurd he.symm (ht j z k1 hk)
      · rfl
/-- What a pointer owns goes back to where it was. -/
theorem exit_one {a' : Act} {tms : List AV} {b k n : Nat} {C : TypeId} {d : DT} {cs : List AV} {s : d.Den} {Hs Hs' : List AB} (hC : Conc E σ τ β ⟨tm, H⟩ a w) (hb : H[b]? = some .gone) (hv : β[b]? = some (.pointer (some ⟨n, 0, none⟩)))
    (hS : Conc E' σ τ' β' ⟨tms, Hs⟩ a' w) (hk : Hs[k]? = some (.cells C cs)) (hv' : β'[k]? = some (.pointer (some ⟨n, 0, none⟩))) (hp : packD d cs (Hs.set k .gone) = some (s, [], Hs')) (hd : Dj τ H τ' Hs)
    (hap : ∀ (j : Nat) x, Hs[j]? = some x → x.live = true → ¬ E.Kp (τ' j)) :
    ∃ τ2 β2, (∃ s, β2 = β ++ s) ∧ Conc E σ τ2 β2 ⟨tm, unpackB b C d s H⟩ a w ∧ Dj τ2 (unpackB b C d s H) τ' Hs' ∧ HPres H (unpackB b C d s H) := by
  obtain ⟨n', vs, e1, e2, e3⟩ := hS.heap k _ _ hk hv'
  simp only [Value.pointer.injEq, Option.some.injEq, Addr.mk.injEq] at e1
  obtain ⟨rfl, _⟩ := e1
  have g1 : Gone Hs (Hs.set k .gone) := .set hk (fun y => by simp)
  have hlen : vs.length = d.sz := by
    obtain ⟨us1, us2, k1, k2, k3⟩ := packD_len hp e3
    simp only [RelL] at k3
    subst k3
    simpa [k1] using k2
  have ht : ∀ (i : Nat) y, H[i]? = some y → y.live = true → τ i ≠ τ' k := fun i y hy hl => hd i y k _ hy hl hk rfl
  have hC1 := conc_back (x := .cells C (List.replicate d.sz .unk)) hC hb hv ⟨n, vs, rfl, e2, relL_unk hlen⟩ (hap k _ hk rfl) ht
  have hbl : b < H.length := (List.getElem?_eq_some_iff.1 hb).1
  have hset : ∀ (i : Nat) (y : AB), (H.set b (.cells C (List.replicate d.sz .unk)))[i]? = some y → (H[i]? = some y ∧ i ≠ b) ∨ i = b := by
    intro i y hy
    rw [List.getElem?_set] at hy
    by_cases hij : b = i
    · exact .inr hij.symm
    · rw [if_neg hij] at hy
      exact .inl ⟨hy, fun h => hij h.symm⟩
  have hd1 : Dj (updT τ b (τ' k)) (H.set b (.cells C (List.replicate d.sz .unk))) τ' (Hs.set k .gone) := by
    intro i x j y hx hl hy hly
    obtain ⟨z1, z2⟩ := gone_get hy hly
    rcases hset i x hx with ⟨h1, h2⟩ | rfl
    · simp only [updT, h2, if_false]
      exact hd i x j y h1 hl z1 hly
    · simp only [updT, if_true]
      exact fun he => z2 (hS.inj _ _ _ _ hk z1 rfl hly he).symm
  obtain ⟨τ3, β3, us1, us2, k1, f1, f2, f3, f4⟩ := moveD d hp (conc_Gone hS g1) e3 hC1 hd1 (fun j x hx hl _ => hap j x (g1.get hx hl) hl)
  simp only [RelL] at f2
  subst f2
  rw [List.append_nil] at k1
  subst k1
  have hbl' : b < (H.set b (AB.cells C (List.replicate d.sz .unk))).length := by simpa using hbl
  have hb1 : (unpackD d s (H.set b (.cells C (List.replicate d.sz .unk)))).2[b]? = some (.cells C (List.replicate d.sz .unk)) := by
    rw [f3.heap b hbl', List.getElem?_set, if_pos rfl, if_pos hbl]
  have hb2 : β3[b]? = some (.pointer (some ⟨n, 0, none⟩)) := by
    obtain ⟨q, rfl⟩ := f3.more
    rw [List.getElem?_append_left (List.getElem?_eq_some_iff.1 hv).1]; exact hv
  have hb3 : τ3 b = τ' k := by rw [f3.tags b hbl']; simp [updT]
  refine ⟨τ3, β3, f3.more, conc_refine f3.conc hb1 hb2 (by rw [hb3]; exact e2) f4, ?_, ?_⟩
  · intro i x j z hx hl hz hk
    unfold unpackB at hx
    rw [List.getElem?_set] at hx
    by_cases hi : b = i
    · subst hi
      exact f3.disj _ _ j z hb1 rfl hz hk
    · rw [if_neg hi] at hx
      exact f3.disj i x j z hx hl hz hk
  · refine ⟨?_, fun i y hy => ?_⟩
    · unfold unpackB
      rw [List.length_set]
      have := f3.long
      simpa using this
    · have hib : b ≠ i := fun h => by subst h; rw [hb] at hy; cases hy
      unfold unpackB
      rw [List.getElem?_set, if_neg hib, f3.heap i (by simpa using (List.getElem?_eq_some_iff.1 hy).1), List.getElem?_set, if_neg hib]
      exact hy
/-- A result. -/
theorem moveV {a' : Act} {tms : List AV} {ag : Bool} {d : DT} {v : AV} {u : Value} {y : d.Den} {Hs Hs' : List AB} (h : packV ag d v Hs = some (y, Hs')) (hS : Conc E' σ τ' β' ⟨tms, Hs⟩ a' w) (hr : Rel E' σ w β' v u) (hC : Conc E σ τ β ⟨tm, H⟩ a w) (hd : Dj τ H τ' Hs)
    (hap : ∀ (j : Nat) x, Hs[j]? = some x → x.live = true → ¬ E.Kp (τ' j)) :
    ∃ τ2 β2, Gone Hs Hs' ∧ Mvd E σ w a tm τ β H τ' Hs' τ2 β2 (unpackV ag d y H).2 ∧ Rel E σ w β2 (unpackV ag d y H).1 u := by
  have aggC : ∀ {cs : List AV} {vs : List Value}, packD d cs Hs = some (y, [], Hs') → RelL E' σ w β' cs vs → ∃ τ2 β2, Gone Hs Hs' ∧ Mvd E σ w a tm τ β H τ' Hs' τ2 β2 (unpackD d y H).2 ∧ RelL E σ w β2 (unpackD d y H).1 vs := by
    intro cs vs h1 h2
    obtain ⟨τ3, β3, us1, us2, k1, f1, f2, f3, f4⟩ := moveD d h1 hS h2 hC hd (fun j x hx hl _ => hap j x hx hl)
    simp only [RelL] at f2
    subst f2
    rw [List.append_nil] at k1
    subst k1
    exact ⟨τ3, β3, packD_gone h1, f3, f4⟩
  unfold packV at h
  split at h
  · split at h
    · rename_i cs
      split at h
      · rename_i h1
        simp only [Option.some.injEq, Prod.mk.injEq] at h
        obtain ⟨rfl, rfl⟩ := h
        simp only [Rel] at hr
        obtain ⟨vs, rfl, h2⟩ := hr
        obtain ⟨τ2, β2, g0, g1, g2⟩ := aggC h1 h2
        exact ⟨τ2, β2, g0, g1, by simp only [unpackV, Rel]; exact ⟨vs, rfl, g2⟩⟩
      · cases h
    · rename_i vs
      split at h
      · rename_i h1
        simp only [Option.some.injEq, Prod.mk.injEq] at h
        obtain ⟨rfl, rfl⟩ := h
        simp only [Rel] at hr
        subst hr
        obtain ⟨τ2, β2, g0, g1, g2⟩ := aggC h1 (relL_vals _)
        exact ⟨τ2, β2, g0, g1, by simp only [unpackV, Rel]; exact ⟨vs.toList, by simp, g2⟩⟩
      · cases h
    · cases h
  · split at h
    · rename_i h1
      simp only [Option.some.injEq, Prod.mk.injEq] at h
      obtain ⟨rfl, rfl⟩ := h
      obtain ⟨τ2, β2, g0, g1, g2⟩ := aggC (vs := [u]) h1 (by simp only [RelL]; exact ⟨u, [], rfl, hr, rfl⟩)
      refine ⟨τ2, β2, g0, g1, ?_⟩
      simp only [unpackV]
      generalize (unpackD d _ H).1 = l at g2 ⊢
      cases l with
      | nil => simp [RelL] at g2
      | cons z l =>
        simp only [RelL] at g2
        obtain ⟨v', r, e1, e2, _⟩ := g2
        injection e1 with e1 _
        subst e1
        exact e2
    · cases h
theorem moveR {a' : Act} {tms : List AV} : ∀ {rs : List (Bool × DT)} {vs : List AV} {us : List Value} {Hs : List AB} {r : RDen rs} {τ : Nat → Nat} {β : List Value} {H : List AB}, packR rs vs Hs = some r → Conc E' σ τ' β' ⟨tms, Hs⟩ a' w → RelL E' σ w β' vs us → Conc E σ τ β ⟨tm, H⟩ a w → Dj τ H τ' Hs →
    (∀ (j : Nat) x, Hs[j]? = some x → x.live = true → ¬ E.Kp (τ' j)) →
    ∃ τ2 β2, (∃ s, β2 = β ++ s) ∧ Conc E σ τ2 β2 ⟨tm, (unpackR rs r H).2⟩ a w ∧ HPres H (unpackR rs r H).2 ∧ RelL E σ w β2 (unpackR rs r H).1 us
  | [], [], us, Hs, r, τ, β, H, h, hS, hr, hC, hd, hap => by
    simp only [RelL] at hr
    subst hr
    exact ⟨τ, β, ⟨[], by simp⟩, hC, .refl _, by simp [unpackR, RelL]⟩
  | [], v :: vs, us, Hs, r, τ, β, H, h, hS, hr, hC, hd, hap => by simp [packR] at h
  | [p], [], us, Hs, r, τ, β, H, h, hS, hr, hC, hd, hap => by simp [packR] at h
  | [p], v :: v' :: vs, us, Hs, r, τ, β, H, h, hS, hr, hC, hd, hap => by simp [packR] at h
  | p :: q :: l, [], us, Hs, r, τ, β, H, h, hS, hr, hC, hd, hap => by simp [packR] at h
  | [p], [v], us, Hs, r, τ, β, H, h, hS, hr, hC, hd, hap => by
    simp only [RelL] at hr
    obtain ⟨u, us', rfl, hu, rfl⟩ := hr
    simp only [packR] at h
    split at h
    · rename_i y H' h1
      obtain rfl := Option.some.inj h
      obtain ⟨τ2, β2, g0, g1, g2⟩ := moveV h1 hS hu hC hd hap
      refine ⟨τ2, β2, g1.more, g1.conc, ⟨g1.long, fun i z hz => ?_⟩, ?_⟩
      · rw [show (unpackR [p] y H).2 = (unpackV p.1 p.2 y H).2 from rfl, g1.heap i (List.getElem?_eq_some_iff.1 hz).1]; exact hz
      · simp only [unpackR, RelL]
        exact ⟨u, [], rfl, g2, rfl⟩
    · cases h
  | p :: q :: l, v :: vs, us, Hs, r, τ, β, H, h, hS, hr, hC, hd, hap => by
    simp only [RelL] at hr
    obtain ⟨u, us', rfl, hu, hr⟩ := hr
    simp only [packR] at h
    split at h
    · rename_i y H' h1
      split at h
      · rename_i z h2
        obtain rfl := Option.some.inj h
        obtain ⟨τ2, β2, g0, g1, g2⟩ := moveV h1 hS hu hC hd hap
        obtain ⟨τ3, β3, f1, f2, f3, f4⟩ := moveR h2 (conc_Gone hS g0) hr g1.conc g1.disj (fun j x hx hl => hap j x (g0.get hx hl) hl)
        refine ⟨τ3, β3, ?_, f2, HPres.trans ⟨g1.long, fun i z hz => ?_⟩ f3, ?_⟩
        · obtain ⟨s1, rfl⟩ := g1.more
          obtain ⟨s2, rfl⟩ := f1
          exact ⟨s1 ++ s2, by simp⟩
        · rw [g1.heap i (List.getElem?_eq_some_iff.1 hz).1]; exact hz
        · simp only [unpackR, RelL]
          exact ⟨u, us', rfl, Rel.more f1 g2, f4⟩
      · cases h
    · cases h

theorem hdlP0_ok {f : FuncId} {fn : Func} {c : Code} (hs : List (Hnd P)) (an : List LAnn) (C : TypeId) (d : DT) (ps : List (Bool × Ty)) (rs : List (Bool × DT)) (F : d.Den → ADen ps → Option (d.Den × RDen rs))
    (hf : P.funcs[f]? = some fn) (hb : fn.body = some c)
    (hF : ∀ s y, exec P hs an (d.Den × RDen rs) c (.ptr 0 0 :: encArgs ps y ++ List.replicate (fn.ntmps - (ps.length + 1)) (.val undef)) (unpackD (.ptr C d) s []).2 (finP P fn.results.toList C d rs) = F s y) : HdlOk P f (hdlP0 C d ps rs F) := by
  intro X args H k x h
  unfold hdlP0 at h
  split at h
  case h_2 => cases h
  rename_i b l
  split at h
  case h_2 => cases h
  rename_i s l0 H1 hpk
  split at h
  case h_2 => cases h
  rename_i y hy
  obtain ⟨r, hr, hk⟩ := Option.bind_eq_some_iff.1 h
  intro E σ τ β tm a w us hC hargs
  simp only [RelL] at hargs
  obtain ⟨u0, us, rfl, hu0, hargs⟩ := hargs
  have hg := packD_gone hpk
  obtain ⟨r1, q1, q2⟩ := Gh.fresh σ (E.bnd + 1) w.heap.size
  obtain ⟨r0, q3, q4⟩ := Gh.fresh τ r1 H.length
  have hD0 : ∀ t, E.Kp t → ¬ ∃ (i : Nat) (x : AB), H[i]? = some x ∧ x.live = true ∧ (∀ y, H1[i]? = some y → y.live = false) ∧ τ i = t := by
    rintro t ht ⟨i, x, h1, h2, _, rfl⟩
    exact hC.apart i x h1 h2 ht
  let E' : Env := ⟨fun t => t < r0 ∧ ¬ ∃ (i : Nat) (x : AB), H[i]? = some x ∧ x.live = true ∧ (∀ y, H1[i]? = some y → y.live = false) ∧ τ i = t, fun t => t < r0 ∧ ¬ ∃ (i : Nat) (x : AB), H[i]? = some x ∧ x.live = true ∧ (∀ y, H1[i]? = some y → y.live = false) ∧ τ i = t, r0, ⟨by omega, hD0 0 (E.sub _ E.nought)⟩, fun t h => h, fun t h => h.1⟩
  have hsub : ∀ t, E.Kp t → E'.Kp t := fun t ht => ⟨by have := E.low t ht; omega, hD0 t ht⟩
  have hlive : ∀ (i : Nat) x, H1[i]? = some x → x.live = true → E'.Kp (τ i) := by
    intro i x hx hl
    have hx0 := hg.get hx hl
    refine ⟨q4 i (List.getElem?_eq_some_iff.1 hx0).1, ?_⟩
    rintro ⟨j, z, h1, h2, h3, he⟩
    have := hC.inj j i z x h1 hx0 h2 hl he
    subst this
    have := h3 x hx
    rw [hl] at this
    cases this
  have hC1 := conc_Gone hC hg
  -- the pointer
  have hu0' : RelL E σ w β [.ptr b 0] [u0] := by simp only [RelL]; exact ⟨u0, [], rfl, hu0, rfl⟩
  have hbase0 : Conc E' σ (fun _ => 0) [] ⟨[], []⟩ (⟨#[], []⟩ : Act) w := ⟨rfl, by simp [RelL], rfl, fun i x v hx => by simp at hx, fun i x hx => by simp at hx, fun i j x y hx => by simp at hx⟩
  obtain ⟨τ2, β2, us1, us2, k1, m1, m2, m3, m4⟩ := moveD (.ptr C d) (E := E') (E' := E) (τ := fun _ => 0) (β := []) (H := []) (tm := []) (a := (⟨#[], []⟩ : Act)) hpk hC hu0' hbase0 (fun i x j y hx => by simp at hx) (fun j x hx hl hg2 hkp => hkp.2 ⟨j, x, hx, hl, hg2, rfl⟩)
  have e0 : us1 = [u0] := by
    have hl := m1
    simp only [DT.sz] at hl
    cases us1 with
    | nil => simp at hl
    | cons z zs =>
      cases zs with
      | nil => simp at k1; rw [k1.1]
      | cons z' zs => simp at hl
  subst e0
  have m4' := m4
  simp only [unpackD, RelL] at m4
  obtain ⟨u0', r', e1, m5, _⟩ := m4
  injection e1 with e1 _
  subst e1
  simp only [Rel] at hu0 m5
  obtain ⟨n, hbn, rfl⟩ := hu0
  obtain ⟨n', hbn', e2⟩ := m5
  simp only [Value.pointer.injEq, Option.some.injEq, Addr.mk.injEq] at e2
  obtain ⟨rfl, _⟩ := e2
  have hbn' : β2[0]? = some (.pointer (some ⟨n, 0, none⟩)) := hbn'
  -- the other arguments
  have hargs' : RelL E' σ w β2 (encArgs ps y) us := decArgs_rel' hC1 (fun t ht => by
    rcases ht with ht | ⟨i, x, h1, h2, rfl⟩
    · exact hsub t (E.sub _ ht)
    · exact hlive i x h1 h2) hargs hy
  have hul : us.length = ps.length := by rw [hargs'.length, encArgs_len]
  have hC0 : Conc E' σ τ2 β2 ⟨.ptr 0 0 :: encArgs ps y ++ List.replicate (fn.ntmps - (ps.length + 1)) (.val undef), (unpackD (.ptr C d) s []).2⟩ { tmps := (Value.pointer (some ⟨n, 0, none⟩) :: us).toArray ++ Array.replicate (fn.ntmps - (Value.pointer (some ⟨n, 0, none⟩) :: us).toArray.size) undef, defers := [] } w := by
    refine ⟨rfl, ?_, m3.conc.size, m3.conc.heap, m3.conc.apart, m3.conc.inj⟩
    have e : ((Value.pointer (some ⟨n, 0, none⟩) :: us).toArray ++ Array.replicate (fn.ntmps - (Value.pointer (some ⟨n, 0, none⟩) :: us).toArray.size) undef).toList = (Value.pointer (some ⟨n, 0, none⟩) :: us) ++ List.replicate (fn.ntmps - (ps.length + 1)) undef := by simp [hul]
    simp only [e]
    refine RelL.append ?_ ?_
    · simp only [RelL]
      exact ⟨_, us, rfl, by simp only [Rel]; exact ⟨n, hbn', rfl⟩, hargs'⟩
    · have := relL_vals (E := E') (σ := σ) (w := w) (β := β2) (List.replicate (fn.ntmps - (ps.length + 1)) undef)
      simpa using this
  refine calls_of_wp hf hb (exec_sound c (x := r) (by rw [hF s y]; exact hr) hC0 (fun e tm' H' σ' τ' β' a' w' hk' hW hC' => ?_))
  have main : endP P fn.results.toList C d rs tm' H' = some r → a'.defers = [] ∧ ∃ v, (results fn a'.tmps).run P w' = .ok v w' ∧
      ∃ v_1 σ', Ending.returned v = Ending.returned v_1 ∧ ∃ H'' av τ' β', k H'' av = some x ∧ HPres H H'' ∧ (∃ s, β' = β ++ s) ∧ EvT (Rng E) σ w σ' w' ∧ Conc E σ' τ' β' ⟨tm, H''⟩ a w' ∧ Rel E σ' w' β' av v_1 := by
    intro hm
    unfold endP at hm
    split at hm
    case h_2 => cases hm
    rename_i vs0 hvs
    split at hm
    case h_2 => cases hm
    rename_i vs H20 hfz
    split at hm
    case h_2 => cases hm
    rename_i H2 hfb
    split at hm
    case h_2 => cases hm
    rename_i C' cs hcell
    split at hm
    case h_2 => cases hm
    rename_i pC s' H3 _ hpd
    obtain ⟨hCC⟩ := pC
    subst hCC
    split at hm
    case h_2 => cases hm
    rename_i rr hpr
    obtain rfl := Option.some.inj hm
    obtain ⟨us', e1, e2⟩ := resL_sound hC' hvs
    refine ⟨hC'.defers, oneVal us', results_run e1, oneVal us', ?_⟩
    obtain ⟨_, σ20, hevf, hC20, e30⟩ := frzVs_sound hfz hC' e2
    obtain ⟨_, σ2, hevg, hC2⟩ := frzB_sound hfb hC20
    have hP' : ∀ t, E'.Pr t → ¬ Rng E' t := fun t ht h => h (E'.sub t ht)
    have e3 := RelL.ev hevg hP' e30
    refine ⟨σ2, rfl, ?_⟩
    have hev : EvT (Rng E') σ w σ2 w' := (hW.ev.trans hevf).trans hevg
    have hevE : EvT (Rng E) σ w σ2 w' := hev.mono (fun t ht hp => ht (hsub t hp))
    have hP : ∀ t, E.Pr t → ¬ Rng E' t := fun t ht h => h (hsub t (E.sub t ht))
    have hcl : Conc E σ2 τ β ⟨tm, H1⟩ a w' := ⟨hC1.defers, RelL.ev hev hP hC1.tmps, hC1.size, fun i x v hx hv => BRel.ev (hC1.heap i x v hx hv) hev hP (fun hl h => h (hlive i x hx hl)), hC1.apart, hC1.inj⟩
    have hb1 : H1[b]? = some .gone := by
      simp only [packD] at hpk
      split at hpk
      · rename_i hx
        split at hpk
        · rename_i h2
          simp only [Option.some.injEq, Prod.mk.injEq] at hpk
          obtain ⟨_, _, rfl⟩ := hpk
          have hbg : (H.set b .gone)[b]? = some .gone := by rw [List.getElem?_set, if_pos rfl, if_pos (List.getElem?_eq_some_iff.1 hx).1]
          rcases (packD_gone h2).2 b with h3 | ⟨h3, _⟩
          · rw [h3]; exact hbg
          · exact h3
        · cases hpk
      · cases hpk
    have hb2 : β'[0]? = some (.pointer (some ⟨n, 0, none⟩)) := by
      obtain ⟨q, rfl⟩ := hW.more
      rw [List.getElem?_append_left (List.getElem?_eq_some_iff.1 hbn').1]; exact hbn'
    obtain ⟨τ3, β3, f1, f2, f3, f4⟩ := exit_one hcl hb1 hbn hC2 hcell hb2 hpd (fun i x j z hx hl hz hk he => hC2.apart j z hz hk (he ▸ hlive i x hx hl)) (fun j x hx hl hp => hC2.apart j x hx hl (hsub _ hp))
    have g3 : Gone H2 H3 := (Gone.set hcell (fun y => by simp)).trans (packD_gone hpd)
    obtain ⟨τ4, β4, g4, g5, g6, g7⟩ := moveR hpr (conc_Gone hC2 g3) e3 f2 f3 (fun j x hx hl hp => hC2.apart j x (g3.get hx hl) hl (hsub _ hp))
    refine ⟨_, _, τ4, β4, hk, hg.pres.trans (f4.trans g6), ?_, hevE, g5, oneA_rel g7⟩
    obtain ⟨s1, rfl⟩ := f1
    obtain ⟨s2, rfl⟩ := g4
    exact ⟨s1 ++ s2, by simp⟩
  cases e with
  | normal => exact main hk'
  | ret => exact main hk'
  | _ => simp [finP] at hk'
theorem hdlP_ok {f : FuncId} {fn : Func} {c : Code} (hs : List (Hnd P)) (an : List LAnn) (C : TypeId) (d : DT) (ps : List (Bool × Ty)) (rs : List (Bool × DT)) (F : d.Den → ADen ps → Option (d.Den × RDen rs))
    (hf : P.funcs[f]? = some fn) (hb : fn.body = some c)
    (hF : ∀ s y, exec P hs an (d.Den × RDen rs) c (.ptr 0 0 :: encArgs ps y ++ List.replicate (fn.ntmps - (ps.length + 1)) (.val undef)) (unpackD (.ptr C d) s []).2 (finP P fn.results.toList C d rs) = F s y) : HdlOk P f (hdlP C d ps rs F) := by
  intro X args H k x h
  unfold hdlP at h
  split at h
  case h_2 => cases h
  rename_i b l
  split at h
  case h_2 => cases h
  rename_i H0 hfz
  intro E σ τ β tm a w us hC hargs
  obtain ⟨g0, σ1, g1, g2⟩ := frzB_sound hfz hC
  have hP : ∀ t, E.Pr t → ¬ Rng E t := fun t ht h => h (E.sub t ht)
  refine Calls.mono (hdlP0_ok hs an C d ps rs F hf hb hF X _ H0 k x h E σ1 τ β tm a w us g2 (RelL.ev g1 hP hargs)) ?_
  rintro e w' ⟨v, σ', e1, H2, av, τ', β', k1, k2, k3, k4, k5, k6⟩
  exact ⟨v, σ', e1, H2, av, τ', β', k1, g0.trans k2, k3, g1.trans k4, k5, k6⟩
end
end Go.Am
