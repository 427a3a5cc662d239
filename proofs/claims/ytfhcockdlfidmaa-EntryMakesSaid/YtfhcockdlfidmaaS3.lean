/- The abstract machine, sorting, part 3: slices.SortFunc as a call: it is one. No statement of its own. -/
import Derived.Test.YtfhcockdlfidmaaS2
namespace Go.Am
open Go.Vk Go.RowKit Go.Sort Go.Proofs Go.Shelf
set_option linter.unusedVariables false
set_option linter.unusedSimpArgs false
variable [Dr]

omit [Dr] in
theorem sortM_inv {T : Ty} {f : T.Den → T.Den → Option Int} {xs ys : List T.Den} (h : sortM f xs = some ys) : letI := inhT T
    ∃ cf : T.Den → T.Den → Int, (∀ x y, f x y = some (cf x y)) ∧ SWO (ltOf cf) ∧ xs.length < 4611686018427387904 ∧ ys = (pdq (ltOf cf) xs.toArray 0 xs.toArray.size (Lib.bitLen xs.toArray.size) true true).toList := by
  letI := inhT T
  unfold sortM at h
  split at h
  · rename_i hh
    obtain rfl := Option.some.inj h
    exact ⟨_, hh.1.choose_spec.1, hh.1.choose_spec.2, hh.2, rfl⟩
  · cases h
omit [Dr] in
theorem sortM_len {T : Ty} {f : T.Den → T.Den → Option Int} {xs ys : List T.Den} (h : sortM f xs = some ys) : ys.length = xs.length := by
  obtain ⟨cf, h1, h2, h3, _⟩ := sortM_inv h
  obtain ⟨zs, e1, e2, _⟩ := sortM_spec cf h1 h2 h3
  rw [h] at e1
  obtain rfl := Option.some.inj e1
  exact e2.length_eq
omit [Dr] in
theorem heap_put {w : World} {g n : Nat} {os : Array Obj} {cur : Array Value} {e : TypeId} {fr : Nat × Nat} (F : Array Value) (hb : w.heap[g]? = some (.cells cur e fr)) :
    (grow (putRow id (Sort.ahead w n) g 0 F) os).heap[g]? = some (.cells (Sort.putCells id 0 F cur) e fr) := by
  have hg : g < w.heap.size := (Array.getElem?_eq_some_iff.1 hb).1
  rw [heap_grow_old _ _ (by simpa using hg)]
  simp [putRow, mapBlock, Sort.ahead, Array.getElem?_modify, hb, onCells]
omit [Dr] in
theorem heap_put_other {w : World} {g n k : Nat} {os : Array Obj} (F : Array Value) (hk : k < w.heap.size) (hne : g ≠ k) : (grow (putRow id (Sort.ahead w n) g 0 F) os).heap[k]? = w.heap[k]? := by
  rw [heap_grow_old _ _ (by simpa using hk)]
  simp [putRow, mapBlock, Sort.ahead, Array.getElem?_modify, hne]
omit [Dr] in
theorem take_put (cur F : Array Value) (h : F.size ≤ cur.size) : (Sort.putCells id 0 F cur).toList.take F.size = F.toList := by
  apply List.ext_getElem?
  intro j
  by_cases hj : j < F.size
  · rw [List.getElem?_take_of_lt hj, Array.getElem?_toList, Array.getElem?_toList]
    simp [Sort.putCells, hj, show j < cur.size by omega]
  · rw [List.getElem?_take_eq_none (by omega), List.getElem?_eq_none (by simp; omega)]
omit [Dr] in
theorem holds_put {w : World} {g : Nat} {cur F : Array Value} {e : TypeId} (hb : w.heap[g]? = some (.cells cur e (0, 0))) (ht : cur.toList.take F.size = F.toList) : Holds id w g 0 F := by
  intro j hj
  refine ⟨?_, by simp [World.frozen?, hb]⟩
  have h1 : (cur.toList.take F.size)[j]? = F.toList[j]? := by rw [ht]
  rw [List.getElem?_take_of_lt hj] at h1
  simp only [World.cell?, hb, Nat.zero_add]
  simp only [Option.isSome_none, Bool.false_eq_true, if_false]
  rw [← Array.getElem?_toList, h1]
  simp [hj]
omit [Dr] in
theorem flat_len {T : Ty} (hfl : flatT T = true) (xs : List T.Den) : (xs.flatMap (encF T)).length = xs.length * T.sz := by
  induction xs with
  | nil => simp
  | cons x xs ih => simp only [List.flatMap_cons, List.length_append, ih, encF_len T x hfl, List.length_cons, Nat.add_mul, Nat.one_mul]; omega

theorem clo_val {E : Env} {σ : Gh} {w : World} {β : List Value} {c : AV} {v : Value} {g : FuncId} (h : cloX c = some (g, [], [])) (hr : Rel E σ w β c v) : v = .func (.func g) #[] #[] := by
  unfold cloX at h
  split at h
  · rename_i f fs cs
    simp only [Option.some.injEq, Prod.mk.injEq] at h
    obtain ⟨rfl, rfl, rfl⟩ := h
    simp only [Rel, RelL] at hr
    obtain ⟨vs, us, rfl, rfl, rfl⟩ := hr
    rfl
  · rename_i f fs cs
    simp only [Option.some.injEq, Prod.mk.injEq] at h
    obtain ⟨rfl, h1, h2⟩ := h
    simp only [Rel] at hr
    rw [List.map_eq_nil_iff] at h1 h2
    have e1 : fs = #[] := Array.toList_eq_nil_iff.1 h1
    have e2 : cs = #[] := Array.toList_eq_nil_iff.1 h2
    rw [hr, e1, e2]
  · cases h

theorem sort_ok {P : Program} {ρ : Ren} (L : SlLaysF0.n6 P ρ) {g : FuncId} {T : Ty} {f : T.Den → T.Den → Option Int} (hfl : flatT T = true) (hcmp : @HdlVOk ⟨True⟩ P g (hdlV [(true, T), (true, T)] [.sl 0 false (.int .i64)] (fun y => f y.1 y.2)))
    (eg : ∀ args w, (callFunc g args).run P w = .ok (.enter g args) w) (aE : aggB P (ρ.t 24) = true) (zE : (P.info? (ρ.t 24)).map (·.size) = some T.sz) : HdlOk P (ρ.f 6) (sortHdl g T f) := by
  letI := inhT T
  intro X args H k x h E σ τ β tm a w us hC hargs
  unfold sortHdl at h
  split at h
  case h_2 => cases h
  rename_i xa c
  simp only [RelL] at hargs
  obtain ⟨u, r1, rfl, hx, v, r2, rfl, hc, rfl⟩ := hargs
  split at h
  case h_2 => cases h
  rename_i g' hclo
  split at h
  · rename_i r hg
    obtain rfl := Nat.eq_of_beq_eq_true hg
    have hv := clo_val hclo hc
    subst hv
    split at h
    case h_2 => cases h
    rename_i T' e xs hr
    split at h
    case h_2 => cases h
    rename_i hT _
    subst hT
    simp only [castL] at h
    obtain ⟨ys, hs, hk⟩ := Option.bind_eq_some_iff.1 h
    simp only [Rel] at hx
    have hO : Own T'.kd e σ (τ r) w u xs := hC.heap r _ _ hr hx.1
    have hP := hC.apart r _ hr rfl
    have hyl := sortM_len hs
    obtain ⟨cf, hf, hswo, hlen, hys⟩ := sortM_inv hs
    -- what is to be told of a world behind it
    have fin : ∀ (σ' : Gh) (w' : World), EvT (fun t => t = τ r) σ w σ' w' → Own T'.kd e σ' (τ r) w' u ys →
        ∃ v σ', Ending.returned (.tuple #[]) = .returned v ∧ ∃ H' av τ' β', k H' av = some x ∧ HPres H H' ∧ (∃ s, β' = β ++ s) ∧ EvT (Rng E) σ w σ' w' ∧ Conc E σ' τ' β' ⟨tm, H'⟩ a w' ∧ Rel E σ' w' β' av v := by
      intro σ' w' hev hO'
      refine ⟨_, σ', rfl, _, _, τ, β, hk, .set hr (fun b => by simp), ⟨[], by simp⟩, hev.mono (fun t h hp => hP (h ▸ hp)), Conc.put hC hr rfl hx.1 hev hO', ?_⟩
      simp only [Rel, RelL]
      exact ⟨[], rfl, rfl⟩
    obtain ⟨cs, ⟨hcl, hcase⟩, htag, hreps⟩ := hO
    rcases hcase with ⟨rfl, h0⟩ | ⟨gb, cap, cur, rfl, _, hb, h1, h2, h3, h4⟩
    · have hxs : xs = [] := List.eq_nil_of_length_eq_zero h0
      subst hxs
      have hys0 : ys = [] := List.eq_nil_of_length_eq_zero hyl
      subst hys0
      refine Calls.mono (AnyF.slices_SortFunc_none L none 0 (.func (.func g') #[] #[]) w) ?_
      rintro e0 w' ⟨rfl, rfl⟩
      exact fin σ w' .refl Own.nil
    · have hcs := (reps_flatT hfl xs cs).1 hreps
      have h3 : cur.size = cap * T'.sz := h3
      have h4 : cur.toList.take (xs.length * T'.sz) = cs := h4
      have hfk : (flatK (encF T') T'.sz xs.toArray).toList = cs := by rw [flat_cells hfl, hcs]
      have hfs : (flatK (encF T') T'.sz xs.toArray).size = xs.length * T'.sz := by simp
      have hH : HoldsK (encF T') T'.sz w gb 0 xs.toArray := holds_put hb (by rw [hfs, h4, hfk])
      have hlt : gb < w.heap.size := (Array.getElem?_eq_some_iff.1 hb).1
      have hcon := AnyQ.slices_SortFunc_eq L T'.sz (fun w => run_isAgg_true aE) (fun w => Go.Vk.run_sizeOf zE) (encF T') (fun x => encF_len T' x hfl) (fun x => encF_one T' x) cf hswo g' #[] gb 0 cap xs.toArray w eg (@cmp_lays ⟨True⟩ trivial _ _ _ _ _ _ _ _ _ hfl hcmp hf) hH hlt (by simpa using hlen)
      rw [List.size_toArray] at hcon
      refine Calls.mono hcon ?_
      rintro e0 w' ⟨rfl, n, os, hw⟩
      rw [List.size_toArray] at hys
      generalize hd : pdq (ltOf cf) xs.toArray 0 xs.length (Lib.bitLen xs.length) true true = d' at hys hw
      subst hys
      have hds : d'.toList.toArray = d' := by simp
      have hF : (flatK (encF T') T'.sz d').toList = d'.toList.flatMap (encF T') := by
        have := flat_cells hfl d'.toList
        rw [hds] at this; exact this
      have hFs : (flatK (encF T') T'.sz d').size = d'.toList.length * T'.sz := by simp
      have hle : (flatK (encF T') T'.sz d').size ≤ cur.size := by rw [hFs, hyl, h3]; exact Nat.mul_le_mul_right _ h1
      subst hw
      unfold sortWorldK putRowK
      have hev : EvT (fun t => t = τ r) σ w (fun b => if b < w.heap.size then σ b else E.bnd) (grow (putRow id (Sort.ahead w n) gb 0 (flatK (encF T') T'.sz d')) os) := by
        refine ⟨rfl, rfl, rfl, fun _ => ?_, ?_, fun b hb' hn => ⟨if_pos hb', heap_put_other _ hb' (fun hgb => hn (by rw [← hgb]; exact htag gb rfl))⟩⟩
        · show w.drawn ≤ w.drawn + n
          omega
        · simp [grow]
      refine fin _ _ hev ⟨d'.toList.flatMap (encF T'), ⟨?_, .inr ⟨gb, cap, _, ?_, Nat.zero_le _, heap_put _ hb, ?_, h2, ?_, ?_⟩⟩, fun g0 hg0 => ?_, (reps_flatT hfl _ _).2 rfl⟩
      · rw [flat_len hfl]; rfl
      · rw [hyl]
      · rw [hyl]; exact h1
      · show (Sort.putCells id 0 _ cur).size = cap * T'.sz
        simpa [Sort.putCells] using h3
      · have := take_put cur (flatK (encF T') T'.sz d') hle
        rw [hFs, hF] at this
        exact this
      · have : gb = g0 := by simpa [Value.ownBlock] using hg0
        subst this
        simp only [hlt, if_true]
        exact htag gb rfl
  · rename_i hg
    obtain rfl := Nat.eq_of_beq_eq_true hg
    have hv := clo_val hclo hc
    subst hv
    simp only [Rel] at hx
    subst hx
    refine Calls.mono (AnyF.slices_SortFunc_none L none 0 (.func (.func g') #[] #[]) w) ?_
    rintro e0 w' ⟨rfl, rfl⟩
    refine ⟨_, σ, rfl, _, _, τ, β, h, .refl H, ⟨[], by simp⟩, .refl, hC, ?_⟩
    simp only [Rel, RelL]
    exact ⟨[], rfl, rfl⟩
  · cases h
end Go.Am
