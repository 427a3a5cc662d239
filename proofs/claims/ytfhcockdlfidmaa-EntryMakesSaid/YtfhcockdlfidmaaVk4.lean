/- The walk's own words, part 4: a region that draws its order. No statement of its own. -/
import Derived.Test.YtfhcockdlfidmaaVk3
namespace Go.Vk
set_option linter.unusedVariables false
set_option linter.unusedSimpArgs false
variable [Dr]
open Go.RowKit

/-! ### which operations lie ahead of which -/
/-- the edges that bind in every mode -/
def bindsE (e : Edge) : Bool := match e.ground with | .textOnly _ | .gcOnly _ => false | _ => true
def edg (o : Oper) : List Edge := o.after.toList.filter bindsE
omit [Dr] in
theorem edg_mem {o : Oper} {e : Edge} (h : e ∈ edg o) : e ∈ o.after := by
  have := (List.mem_filter.1 h).1
  simpa using this
omit [Dr] in
theorem edg_binds {o : Oper} {e : Edge} (h : e ∈ edg o) : Region.binds .any e = true := by
  have := (List.mem_filter.1 h).2
  unfold bindsE at this
  unfold Region.binds
  cases hg : e.ground <;> simp [hg] at this ⊢
omit [Dr] in
theorem binds_edg {o : Oper} {e : Edge} (h : e ∈ o.after) (hb : Region.binds .any e = true) : e ∈ edg o := by
  refine List.mem_filter.2 ⟨by simpa using h, ?_⟩
  unfold bindsE
  unfold Region.binds at hb
  cases hg : e.ground <;> simp [hg] at hb ⊢
def maskOf (acc : List Nat) (o : Oper) : Nat := (edg o).foldl (fun s e => s ||| 2 ^ e.on ||| acc.getD e.on 0) 0
def masks : List Oper → List Nat → List Nat
  | [], acc => acc
  | o :: l, acc => masks l (acc ++ [maskOf acc o])

omit [Dr] in
theorem testBit_fold (acc : List Nat) (j : Nat) : ∀ (es : List Edge) (s : Nat), (es.foldl (fun s e => s ||| 2 ^ e.on ||| acc.getD e.on 0) s).testBit j = true →
    s.testBit j = true ∨ ∃ e ∈ es, e.on = j ∨ (acc.getD e.on 0).testBit j = true
  | [], s, h => .inl h
  | e :: es, s, h => by
    rcases testBit_fold acc j es _ h with h | ⟨e', he, h⟩
    · rw [Nat.testBit_or, Nat.testBit_or, Bool.or_eq_true, Bool.or_eq_true] at h
      rcases h with (h | h) | h
      · exact .inl h
      · rw [Nat.testBit_two_pow] at h
        exact .inr ⟨e, by simp, .inl (by simpa using h)⟩
      · exact .inr ⟨e, by simp, .inr h⟩
    · exact .inr ⟨e', by simp [he], h⟩

omit [Dr] in
theorem masks_length : ∀ (l : List Oper) (acc : List Nat), (masks l acc).length = acc.length + l.length
  | [], acc => by simp [masks]
  | o :: l, acc => by simp [masks, masks_length l]; omega
omit [Dr] in
theorem masks_get_old : ∀ (l : List Oper) (acc : List Nat) (i : Nat), i < acc.length → (masks l acc).getD i 0 = acc.getD i 0
  | [], acc, i, _ => rfl
  | o :: l, acc, i, h => by
    rw [masks, masks_get_old l _ i (by simp; omega)]
    simp [List.getD_eq_getElem?_getD, List.getElem?_append_left h]

omit [Dr] in
/-- What a set of operations that is closed holds, behind an operation whose edges it holds. -/
theorem mask_closed (S : Nat → Prop) : ∀ (l pre : List Oper) (acc : List Nat), acc.length = pre.length → (∀ (i : Nat) (o : Oper), (pre ++ l)[i]? = some o → S i → ∀ e ∈ edg o, S e.on) →
    (∀ (i : Nat) (o : Oper), (pre ++ l)[i]? = some o → ∀ e ∈ edg o, e.on < i) →
    (∀ (i : Nat) (o : Oper) (j : Nat), pre[i]? = some o → (∀ e ∈ edg o, S e.on) → (acc.getD i 0).testBit j = true → S j) →
    ∀ (i : Nat) (o : Oper) (j : Nat), (pre ++ l)[i]? = some o → (∀ e ∈ edg o, S e.on) → ((masks l acc).getD i 0).testBit j = true → S j
  | [], pre, acc, _, _, _, hp, i, o, j, hi, he, hb => hp i o j (by simpa using hi) he hb
  | x :: l, pre, acc, hl, hc, hlt, hp, i, o, j, hi, he, hb => by
    have ha : pre ++ x :: l = (pre ++ [x]) ++ l := by simp
    rw [ha] at hc hlt hi
    refine mask_closed S l (pre ++ [x]) (acc ++ [maskOf acc x]) (by simp [hl]) hc hlt ?_ i o j hi he hb
    intro i o j hi he hb
    rcases Nat.lt_or_ge i pre.length with h | h
    · rw [List.getElem?_append_left h] at hi
      refine hp i o j hi he ?_
      rwa [List.getD_eq_getElem?_getD, List.getElem?_append_left (by omega), ← List.getD_eq_getElem?_getD] at hb
    · have hi' : i = pre.length := by
        have := (List.getElem?_eq_some_iff.1 hi).1
        simp at this; omega
      subst hi'
      have hx : o = x := by simpa using hi.symm
      subst hx
      have hbb : (maskOf acc o).testBit j = true := by
        rw [List.getD_eq_getElem?_getD, List.getElem?_append_right (by omega), hl] at hb
        simpa using hb
      rcases testBit_fold acc j _ _ hbb with h0 | ⟨e, hem, h0⟩
      · simp at h0
      · rcases h0 with h0 | h0
        · subst h0; exact he e hem
        · have hlt' : e.on < pre.length := hlt pre.length o (by simp) e hem
          obtain ⟨o', ho'⟩ : ∃ o', pre[e.on]? = some o' := ⟨_, List.getElem?_eq_getElem hlt'⟩
          refine hp e.on o' j ho' (fun e' he' => hc e.on o' ?_ (he e hem) e' he') h0
          rw [List.append_assoc, List.getElem?_append_left hlt']
          exact ho'

/-! ### what an operation gives, whatever the frame -/
def OpGives (P : Program) (ρ : Operand → Value) (o : Oper) (w : World) (R : Value → Gh → World → Prop) : Prop :=
  match (execOp ρ o).run P w with
  | .ok (.value v) w' => ∃ σ', R v σ' w'
  | .ok .skip w' => ∃ σ', R undef σ' w'
  | .ok (.enter f args) w' => Calls P f args w' fun e w'' => ∃ v σ', e = .returned v ∧ R v σ' w''
  | _ => False

omit [Dr] in
theorem OpGives.val {P : Program} {ρ : Operand → Value} {o : Oper} {w w' : World} {v : Value} {R : Value → Gh → World → Prop} (σ' : Gh) (h : (execOp ρ o).run P w = .ok (.value v) w') (hR : R v σ' w') : OpGives P ρ o w R := by
  unfold OpGives; rw [h]; exact ⟨σ', hR⟩
omit [Dr] in
theorem OpGives.unit {P : Program} {ρ : Operand → Value} {o : Oper} {w w' : World} {R : Value → Gh → World → Prop} (σ' : Gh) (h : (execOp ρ o).run P w = .ok .skip w') (hR : R undef σ' w') : OpGives P ρ o w R := by
  unfold OpGives; rw [h]; exact ⟨σ', hR⟩
theorem OpGives.call {P : Program} {ρ : Operand → Value} {o : Oper} {σ : Gh} {w : World} {f : FuncId} {args : Array Value} {lo hi : Nat} {R R' : Value → Gh → World → Prop} (h : (execOp ρ o).run P w = .ok (.enter f args) w) (hc : Gives P f args lo hi σ w R')
    (k : ∀ v σ' w', Ev lo hi σ w σ' w' → R' v σ' w' → R v σ' w') : OpGives P ρ o w R := by
  unfold OpGives; rw [h]
  refine Calls.mono hc ?_
  rintro e w' ⟨v, σ', rfl, he, hR⟩
  exact ⟨v, σ', rfl, k v σ' w' he hR⟩

omit [Dr] in
theorem OpGives.wp {P : Program} {o : Oper} {a : Act} {w : World} {R : Value → Gh → World → Prop} {K : Act → World → Prop} {Q : Exit → Act → World → Prop} (h : OpGives P a.eval o w R) (hk : ∀ v σ' w', R v σ' w' → K (a.put o.dst v) w') : o.wp P a w K Q := by
  unfold OpGives at h
  unfold Oper.wp
  generalize (execOp a.eval o).run P w = r at h ⊢
  cases r with
  | halt x w' => exact h.elim
  | ok nx w' =>
    cases nx <;> first | exact h.elim | skip
    · obtain ⟨σ', hR⟩ := h
      rw [Oper.upon_value]; exact hk _ _ _ hR
    · obtain ⟨σ', hR⟩ := h
      rw [Oper.upon_skip]; exact hk _ _ _ hR
    · rw [Oper.upon_enter]
      refine Calls.mono h ?_
      rintro e w'' ⟨v, σ', rfl, hR⟩
      exact hk _ _ _ hR

/-! ### frames -/
def slotsOf (vs : Nat → Value) (det : List (Option Value)) (S : Nat → Bool) : Nat → List Oper → Array Value → Array Value
  | _, [], t => t
  | k, o :: l, t => slotsOf vs det S (k + 1) l (match S k, o.dst with
    | true, some d => t.setIfInBounds d ((det.getD k none).getD (vs k))
    | _, _ => t)

section
variable {vs vs' : Nat → Value} {det : List (Option Value)} {S S' : Nat → Bool}
omit [Dr] in
theorem slotsOf_size : ∀ (l : List Oper) (k : Nat) (t : Array Value), (slotsOf vs det S k l t).size = t.size
  | [], k, t => rfl
  | o :: l, k, t => by
    rw [slotsOf, slotsOf_size l]
    split <;> simp
omit [Dr] in
/-- Two sets that agree on those who write the slot. -/
theorem slotsOf_get (x : Nat) : ∀ (l : List Oper) (k : Nat) (t t' : Array Value), t[x]? = t'[x]? → (∀ j o, l[j]? = some o → o.dst = some x → S (k + j) = S' (k + j)) → (slotsOf vs det S k l t)[x]? = (slotsOf vs det S' k l t')[x]?
  | [], k, t, t', h, _ => h
  | o :: l, k, t, t', h, hs => by
    rw [slotsOf, slotsOf]
    refine slotsOf_get x l (k + 1) _ _ ?_ (fun j o' ho hd => by have := hs (j + 1) o' (by simpa using ho) hd; rwa [show k + 1 + j = k + (j + 1) by omega])
    cases hd : o.dst with
    | none => cases S k <;> cases S' k <;> exact h
    | some d =>
      by_cases hx : d = x
      · subst hx
        have h0 : S k = S' k := hs 0 o rfl hd
        rw [← h0]
        cases S k
        · exact h
        · have hsz : (d < t.size) ↔ (d < t'.size) := by
            constructor
            · intro h1
              rw [Array.getElem?_eq_getElem h1] at h
              exact (Array.getElem?_eq_some_iff.1 h.symm).1
            · intro h1
              rw [Array.getElem?_eq_getElem h1] at h
              exact (Array.getElem?_eq_some_iff.1 h).1
          simp only [Array.getElem?_setIfInBounds, if_true, hsz]
      · cases S k <;> cases S' k <;> simp [Array.getElem?_setIfInBounds, hx, h]
omit [Dr] in
theorem slotsOf_vs : ∀ (l : List Oper) (k : Nat) (t : Array Value), (∀ j, S (k + j) = true → vs (k + j) = vs' (k + j)) → slotsOf vs det S k l t = slotsOf vs' det S k l t
  | [], k, t, _ => rfl
  | o :: l, k, t, h => by
    rw [slotsOf, slotsOf]
    have h0 := h 0
    rw [Nat.add_zero] at h0
    have : (match S k, o.dst with | true, some d => t.setIfInBounds d ((det.getD k none).getD (vs k)) | _, _ => t) = (match S k, o.dst with | true, some d => t.setIfInBounds d ((det.getD k none).getD (vs' k)) | _, _ => t) := by
      cases hs : S k
      · rfl
      · rw [h0 hs]
    rw [this]
    exact slotsOf_vs l (k + 1) _ (fun j hj => by have := h (j + 1); rw [show k + 1 + j = k + (j + 1) by omega] at hj ⊢; exact this hj)
omit [Dr] in
theorem slotsOf_set (d : Nat) (v : Value) : ∀ (l : List Oper) (k : Nat) (t : Array Value), (∀ o ∈ l, o.dst ≠ some d) → slotsOf vs det S k l (t.setIfInBounds d v) = (slotsOf vs det S k l t).setIfInBounds d v
  | [], k, t, _ => rfl
  | o :: l, k, t, h => by
    rw [slotsOf, slotsOf, ← slotsOf_set d v l (k + 1) _ (fun o' ho => h o' (by simp [ho]))]
    congr 1
    have h0 := h o (by simp)
    cases S k with
    | false => rfl
    | true =>
      cases hd : o.dst with
      | none => rfl
      | some c => exact Array.setIfInBounds_comm _ _ (fun e => h0 (by rw [hd, e]))
end

omit [Dr] in
/-- One operation more. -/
theorem slotsOf_add {det : List (Option Value)} (v : Value) (i : Nat) : ∀ (l : List Oper) (k : Nat) (t : Array Value) (vs : Nat → Value) (S : Nat → Bool) (o : Oper), k ≤ i → l[i - k]? = some o → S i = false → (∀ j o', l[j]? = some o' → k + j ≠ i → ∀ d, o.dst = some d → o'.dst ≠ some d) →
    slotsOf (fun q => if q = i then v else vs q) det (fun q => if q = i then true else S q) k l t = (match o.dst with
      | some d => (slotsOf vs det S k l t).setIfInBounds d ((det.getD i none).getD v)
      | none => slotsOf vs det S k l t)
  | [], k, t, vs, S, o, _, ho, _, _ => by simp at ho
  | x :: l, k, t, vs, S, o, hk, ho, hS, hu => by
    rcases Nat.eq_or_lt_of_le hk with he | hlt
    · subst he
      have hx : x = o := by simpa using ho
      subst hx
      have hrest : ∀ t' : Array Value, slotsOf (fun q => if q = k then v else vs q) det (fun q => if q = k then true else S q) (k + 1) l t' = slotsOf vs det S (k + 1) l t' := by
        intro t'
        rw [slotsOf_vs (vs' := vs) l (k + 1) t' (fun j _ => if_neg (by omega))]
        apply Array.ext_getElem?
        intro y
        exact slotsOf_get y l (k + 1) t' t' rfl (fun j o' _ _ => if_neg (by omega))
      rw [slotsOf, slotsOf, hrest]
      simp only [if_true, hS]
      cases hd : x.dst with
      | none => rfl
      | some d =>
        simp only
        exact slotsOf_set d _ l (k + 1) t (fun o' ho' e => by
          obtain ⟨j, hj, hje⟩ := List.getElem_of_mem ho'
          exact hu (j + 1) o' (by simp [← hje]) (by omega) d hd e)
    · have ho2 : l[i - (k + 1)]? = some o := by
        rw [show i - k = (i - (k + 1)) + 1 by omega] at ho
        simpa using ho
      have ih := slotsOf_add (det := det) v i l (k + 1) (match S k, x.dst with | true, some d => t.setIfInBounds d ((det.getD k none).getD (vs k)) | _, _ => t) vs S o hlt ho2 hS
        (fun j o' hj hne d hd => hu (j + 1) o' (by simpa using hj) (by omega) d hd)
      rw [slotsOf, slotsOf]
      have hne : k ≠ i := by omega
      simp only [if_neg hne]
      exact ih

/-! ### the region -/
def regionOk (l : List Oper) (m : Nat) : Bool :=
  let ms := masks l []
  (l.zipIdx.all fun (o, i) => (edg o).all fun e => decide (e.on < i)) &&
  (l.zipIdx.all fun (o, i) => l.zipIdx.all fun (p, j) => i == j || o.dst.isNone || o.dst != p.dst) &&
  (l.zipIdx.all fun (o, i) => l.zipIdx.all fun (p, j) => match p.dst with
    | none => true
    | some d => !(o.looksAt l.toArray).contains d || (if j < i then (ms.getD i 0).testBit j else if i < j then (ms.getD j 0).testBit i else true)) &&
  (l.zipIdx.all fun (_, i) => decide (i < m) || (List.range i).all fun j => (ms.getD i 0).testBit j) &&
  (l.all fun o => match o.op with | .select .. => false | _ => true)

structure ROk (l : List Oper) (m : Nat) : Prop where
  lt : ∀ (i : Nat) (o : Oper), l[i]? = some o → ∀ e ∈ edg o, e.on < i
  dst : ∀ (i j : Nat) (o p : Oper), l[i]? = some o → l[j]? = some p → i ≠ j → ∀ d, o.dst = some d → p.dst ≠ some d
  rd : ∀ (i j : Nat) (o p : Oper) (d : Tmp), l[i]? = some o → l[j]? = some p → p.dst = some d → d ∈ o.looksAt l.toArray → (j < i → ((masks l []).getD i 0).testBit j = true) ∧ (i < j → ((masks l []).getD j 0).testBit i = true)
  tail : ∀ (i : Nat) (o : Oper), l[i]? = some o → m ≤ i → ∀ j, j < i → ((masks l []).getD i 0).testBit j = true
  sel : ∀ o ∈ l, ∀ cs b, o.op ≠ .select cs b

omit [Dr] in
theorem rok_of {l : List Oper} {m : Nat} (h : regionOk l m = true) : ROk l m := by
  simp only [regionOk, Bool.and_eq_true] at h
  obtain ⟨⟨⟨⟨h2, h3⟩, h4⟩, h5⟩, h6⟩ := h
  have zi : ∀ (i : Nat) (o : Oper), l[i]? = some o → (o, i) ∈ l.zipIdx := fun i o ho => by
    rw [List.mem_zipIdx_iff_getElem?]; exact ho
  refine ⟨?_, ?_, ?_, ?_, ?_⟩
  · intro i o ho e he
    have := List.all_eq_true.1 (List.all_eq_true.1 h2 (o, i) (zi i o ho)) e he
    simpa using this
  · intro i j o p ho hp hne d hd e
    have := List.all_eq_true.1 (List.all_eq_true.1 h3 (o, i) (zi i o ho)) (p, j) (zi j p hp)
    simp [hne, hd, e] at this
  · intro i j o p d ho hp hd hl
    have := List.all_eq_true.1 (List.all_eq_true.1 h4 (o, i) (zi i o ho)) (p, j) (zi j p hp)
    simp only [hd, Bool.or_eq_true, Bool.not_eq_true', List.contains_eq_mem, decide_eq_false_iff_not] at this
    rcases this with this | this
    · exact absurd hl this
    · constructor
      · intro hji; rwa [if_pos hji] at this
      · intro hij; rwa [if_neg (by omega), if_pos hij] at this
  · intro i o ho hm j hj
    have := List.all_eq_true.1 h5 (o, i) (zi i o ho)
    simp only [Bool.or_eq_true, decide_eq_true_eq] at this
    rcases this with this | this
    · omega
    · exact List.all_eq_true.1 this j (by simpa using hj)
  · intro o ho cs b e
    have := List.all_eq_true.1 h6 o ho
    simp [e] at this
end Go.Vk
