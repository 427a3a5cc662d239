/- The walk's own words, part 5: a region that draws its order, whatever it draws. No statement of its own. -/
import Derived.Test.YtfhcockdlfidmaaVk4
namespace Go.Vk
open Go.RowKit
variable [Dr]

section
variable {P : Program} {l : List Oper} {m : Nat} {det : List (Option Value)} {base : Array Value} {Q : Exit → Act → World → Prop}

omit [Dr] in
theorem looks_same {vs : Nat → Value} {S : Nat → Bool} {i : Nat} {o : Oper} (hok : ROk l m) (ho : l[i]? = some o) (hS : S i = false)
    (hd : ∀ j, ((masks l []).getD i 0).testBit j = true → S j = true) (hcl : ∀ j p, l[j]? = some p → S j = true → ∀ q, ((masks l []).getD j 0).testBit q = true → S q = true) (x : Tmp) (hx : x ∈ o.looksAt l.toArray) :
    (slotsOf vs det S 0 l base)[x]? = (slotsOf vs det (fun q => decide (q < i)) 0 l base)[x]? := by
  refine slotsOf_get x l 0 base base rfl (fun j p hp hpd => ?_)
  rw [Nat.zero_add]
  obtain ⟨h1, h2⟩ := hok.rd i j o p x ho hp hpd hx
  rcases Nat.lt_trichotomy j i with h | h | h
  · rw [hd j (h1 h)]; simp [h]
  · subst h; rw [hS]; simp
  · have : S j = false := by
      cases hj : S j
      · rfl
      · rw [hcl j p hp hj i (h2 h)] at hS; exact hS
    rw [this]; simp; omega

omit [Dr] in
theorem exec_same {tmps tmps' : Array Value} {ops : Array Oper} {o : Oper} (hs : ∀ cs b, o.op ≠ .select cs b) (h : ∀ x ∈ o.looksAt ops, tmps[x]? = tmps'[x]?) : execOp (Act.eval ⟨tmps, []⟩) o = execOp (Act.eval ⟨tmps', []⟩) o := by
  refine execOp_congr o hs (fun x hx => ?_)
  cases x with
  | tmp t =>
    have ht : t ∈ o.looksAt ops := by
      unfold Oper.looksAt
      refine List.mem_append.2 (.inl (List.mem_filterMap.2 ⟨.tmp t, by simpa using hx, rfl⟩))
    have := h t ht
    simp only [Act.eval, Array.getD_eq_getD_getElem?, this]
  | _ => rfl

omit [Dr] in
theorem wanted_same {tmps tmps' : Array Value} {ops : Array Oper} {o : Oper} (h : ∀ x ∈ o.looksAt ops, tmps[x]? = tmps'[x]?) : Region.wanted o (yielded ops tmps) = Region.wanted o (yielded ops tmps') := by
  unfold Region.wanted
  cases hg : o.guard with
  | none => rfl
  | some g =>
    obtain ⟨j, b⟩ := g
    simp only
    have : yielded ops tmps j = yielded ops tmps' j := by
      unfold yielded
      cases hd : (ops[j]?).bind (·.dst) with
      | none => rfl
      | some d =>
        have hx : d ∈ o.looksAt ops := by
          unfold Oper.looksAt
          rw [hg]
          exact List.mem_append.2 (.inr (by simp [hd]))
        simp only [Option.bind_some, h d hx]
    rw [this]

omit [Dr] in
theorem OpGives.congr {ρ ρ' : Operand → Value} {o : Oper} {w : World} {R : Value → Gh → World → Prop} (h : execOp ρ o = execOp ρ' o) (hg : OpGives P ρ o w R) : OpGives P ρ' o w R := by
  unfold OpGives at hg ⊢
  rw [← h]; exact hg

omit [Dr] in
theorem any_tail (hok : ROk l m) : ∀ (f k : Nat) (listed : Array Bool) (a : Act) (w : World), f = l.length - k → m ≤ k → k ≤ l.length → listed.size = l.length → (∀ j, listed.getD j false = decide (j < k)) →
    wpList P l.toArray Q (l.drop k) a w → wpAny P .any l.toArray Q f listed a w := by
  intro f
  induction f with
  | zero =>
    intro k listed a w hf hm hk hsz hl h
    have : l.drop k = [] := List.drop_eq_nil_of_le (by omega)
    rw [this] at h
    refine ⟨?_, h⟩
    cases hr : Region.ready .any l.toArray listed with
    | nil => rfl
    | cons x xs =>
      have hx : x ∈ Region.ready .any l.toArray listed := by rw [hr]; simp
      obtain ⟨h1, o, ho, _⟩ := mem_ready.1 hx
      have hlt : x < l.length := by have := (Array.getElem?_eq_some_iff.1 ho).1; simpa using this
      have := hl x
      rw [Array.getD_eq_getD_getElem?, Array.getElem?_eq_getElem (by omega)] at this h1
      simp only [Option.getD_some] at this h1
      rw [h1] at this
      simp at this; omega
  | succ f ih =>
    intro k listed a w hf hm hk hsz hl h
    have hlt : k < l.length := by omega
    have hdrop : l.drop k = l[k] :: l.drop (k + 1) := List.drop_eq_getElem_cons hlt
    have hready : ∀ i, i ∈ Region.ready .any l.toArray listed ↔ i = k := by
      intro i
      rw [mem_ready]
      constructor
      · rintro ⟨h1, o, ho, he⟩
        have hi : i < l.length := by have := (Array.getElem?_eq_some_iff.1 ho).1; simpa using this
        have ho' : l[i]? = some o := by simpa using ho
        have h2 := hl i
        rw [Array.getD_eq_getD_getElem?, Array.getElem?_eq_getElem (by omega)] at h1 h2
        simp only [Option.getD_some] at h1 h2
        rw [h1] at h2
        have hki : k ≤ i := by simp at h2; omega
        rcases Nat.eq_or_lt_of_le hki with e | hgt
        · exact e.symm
        · have hb := hok.tail i o ho' (by omega) k hgt
          have := mask_closed (fun j => listed.getD j false = true) l [] [] rfl (fun i o ho hSi e he => by
            rw [hl] at hSi ⊢
            have := hok.lt i o (by simpa using ho) e he
            simp at hSi ⊢; omega) (fun i o ho e he => hok.lt i o (by simpa using ho) e he) (fun i o j h => by simp at h) i o k (by simpa using ho')
            (fun e hem => he e (edg_mem hem) (edg_binds hem)) hb
          rw [hl] at this
          simp at this
      · rintro rfl
        refine ⟨?_, l[i], by simp [hlt], fun e he hb => ?_⟩
        · have := hl i
          rw [Array.getD_eq_getD_getElem?, Array.getElem?_eq_getElem (by omega)] at this ⊢
          simp only [Option.getD_some] at this ⊢
          rw [this]; simp
        · rw [hl]
          have := hok.lt i l[i] (by simp [hlt]) e (binds_edg he hb)
          simpa using this
    refine ⟨fun hr => ?_, fun i hi => ?_⟩
    · have := (hready k).2 rfl
      rw [hr] at this; cases this
    · obtain rfl := (hready i).1 hi
      rw [hdrop] at h
      have hsel := hok.sel
      have hnext : ∀ a w, wpList P l.toArray Q (l.drop (i + 1)) a w → wpAny P .any l.toArray Q f (listed.setIfInBounds i true) a w := by
        intro a w h
        refine ih (i + 1) _ a w (by omega) (by omega) (by omega) (by simpa using hsz) (fun j => ?_) h
        by_cases hj : i = j
        · subst hj
          rw [Array.getD_eq_getD_getElem?, Array.getElem?_setIfInBounds_self_of_lt (by omega)]
          simp
        · rw [getD_set_ne false hj, hl]
          by_cases h1 : j < i
          · simp [h1]; omega
          · simp [h1]; omega
      unfold wpOp
      have ho : l.toArray[i]? = some l[i] := by simp [hlt]
      simp only [ho]
      unfold wpList at h
      split
      · rename_i hw
        rw [if_pos hw] at h
        exact h.imp (Oper.wp_mono hnext) id
      · rename_i hw
        rw [if_neg hw] at h
        exact hnext _ _ h

omit [Dr] in
theorem wp_region_order {id : Nat} {w : World} (hm : P.follows .mixedOrders = true) (m : Nat) (hB : regionOk l m = true) (hml : m ≤ l.length) (det : List (Option Value)) (V : Nat → Value → Gh → World → Prop) (Inv : (Nat → Bool) → Gh → World → Prop) (σ0 : Gh)
    (h0 : Inv (fun _ => false) σ0 { w with drawn := w.drawn + 1 })
    (ob : ∀ i o, i < m → l[i]? = some o → ∀ (S : Nat → Bool) (vs : Nat → Value) σ w, (∀ j, ((masks l []).getD i 0).testBit j = true → S j = true) → S i = false → Inv S σ w → (∀ j, S j = true → det.getD j none = none → V j (vs j) σ w) →
      match Region.wanted o (yielded l.toArray (slotsOf vs det (fun q => decide (q < i)) 0 l base)) with
      | false => det.getD i none = some undef ∧ Inv (fun q => if q = i then true else S q) σ w
      | true => OpGives P (Act.eval ⟨slotsOf vs det (fun q => decide (q < i)) 0 l base, []⟩) o w (fun v σ' w' => Inv (fun q => if q = i then true else S q) σ' w' ∧
          (∀ j u, S j = true → det.getD j none = none → V j u σ w → V j u σ' w') ∧ (match det.getD i none with | some d => v = d | none => V i v σ' w')))
    (tail : ∀ (vs : Nat → Value) σ w, Inv (fun q => decide (q < m)) σ w → (∀ j, j < m → det.getD j none = none → V j (vs j) σ w) → wpList P l.toArray Q (l.drop m) ⟨slotsOf vs det (fun q => decide (q < m)) 0 l base, []⟩ w) :
    (Code.region id l.toArray true).wp P Q ⟨base, []⟩ w := by
  have hok := rok_of hB
  refine wp_region_any hm ?_
  have key : ∀ (f : Nat) (listed : Array Bool) (vs : Nat → Value) (σ : Gh) (w : World), listed.size = l.length → (∀ j, m ≤ j → listed.getD j false = false) →
      (∀ i o, l[i]? = some o → listed.getD i false = true → ∀ e ∈ edg o, listed.getD e.on false = true) →
      f + ((List.range m).filter fun j => listed.getD j false).length = l.length →
      Inv (fun q => listed.getD q false) σ w → (∀ j, listed.getD j false = true → det.getD j none = none → V j (vs j) σ w) →
      wpAny P .any l.toArray Q f listed ⟨slotsOf vs det (fun q => listed.getD q false) 0 l base, []⟩ w := by
    intro f
    induction f with
    | zero =>
      intro listed vs σ w hsz hT hcl hf hI hV
      -- all are listed: m is the length
      have hc : ((List.range m).filter fun j => listed.getD j false).length ≤ m := by have := List.length_filter_le (fun j => listed.getD j false) (List.range m); simpa using this
      have hmm : m = l.length := by omega
      have hall : ∀ j, j < m → listed.getD j false = true := by
        have := List.length_filter_eq_length_iff.1 (show ((List.range m).filter fun j => listed.getD j false).length = (List.range m).length by rw [List.length_range]; omega)
        intro j hj
        exact this j (by simpa using hj)
      have hS : (fun q => listed.getD q false) = (fun q => decide (q < m)) := by
        funext q
        by_cases hq : q < m
        · simp [hall q hq, hq]
        · simp [hT q (by omega), hq]
      have ht := tail vs σ w (hS ▸ hI) (fun j hj hd => hV j (hall j hj) hd)
      have : wpAny P .any l.toArray Q 0 listed ⟨slotsOf vs det (fun q => decide (q < m)) 0 l base, []⟩ w :=
        any_tail (m := m) hok 0 m listed _ w (by omega) (Nat.le_refl _) (by omega) hsz (fun j => by rw [show listed.getD j false = decide (j < m) from congrFun hS j]) ht
      rw [hS]; exact this
    | succ f ih =>
      intro listed vs σ w hsz hT hcl hf hI hV
      by_cases hfull : ∀ j, j < m → listed.getD j false = true
      · have hS : (fun q => listed.getD q false) = (fun q => decide (q < m)) := by
          funext q
          by_cases hq : q < m
          · simp [hfull q hq, hq]
          · simp [hT q (by omega), hq]
        have hcnt : ((List.range m).filter fun j => listed.getD j false).length = m := by
          rw [List.filter_eq_self.2 (fun j hj => hfull j (by simpa using hj))]; simp
        have ht := tail vs σ w (hS ▸ hI) (fun j hj hd => hV j (hfull j hj) hd)
        rw [hS]
        exact any_tail (m := m) hok (f + 1) m listed _ w (by omega) (Nat.le_refl _) hml hsz (fun j => by rw [show listed.getD j false = decide (j < m) from congrFun hS j]) ht
      · have hclosed : ∀ j p, l[j]? = some p → (∀ e ∈ edg p, listed.getD e.on false = true) → ∀ q, ((masks l []).getD j 0).testBit q = true → listed.getD q false = true := fun j p hp he q hq =>
          mask_closed (fun j => listed.getD j false = true) l [] [] rfl (fun i o ho hSi e he => hcl i o (by simpa using ho) hSi e he) (fun i o ho e he => hok.lt i o (by simpa using ho) e he) (fun i o j h => by simp at h) j p q (by simpa using hp) he hq
        obtain ⟨j0, hj0, hj0f⟩ : ∃ j, j < m ∧ listed.getD j false = false := by
          apply Classical.byContradiction
          intro hn
          exact hfull (fun j hj => by
            cases h : listed.getD j false
            · exact absurd ⟨j, hj, h⟩ hn
            · rfl)
        -- the first that isn't listed is ready
        have hexr : ∃ i, i < m ∧ i ∈ Region.ready .any l.toArray listed := by
          obtain ⟨i, hi, hmin⟩ : ∃ i, (i < m ∧ listed.getD i false = false) ∧ ∀ j, j < i → listed.getD j false = true := by
            have : ∀ n, n ≤ j0 → (∃ i, (i < m ∧ listed.getD i false = false) ∧ ∀ j, j < i → listed.getD j false = true) ∨ ∀ j, j < n → listed.getD j false = true := by
              intro n
              induction n with
              | zero => intro _; exact .inr (fun j hj => absurd hj (by omega))
              | succ n ihn =>
                intro hn
                rcases ihn (by omega) with h | h
                · exact .inl h
                · cases hv : listed.getD n false
                  · exact .inl ⟨n, ⟨by omega, hv⟩, h⟩
                  · refine .inr (fun j hj => ?_)
                    rcases Nat.lt_or_ge j n with h1 | h1
                    · exact h j h1
                    · have : j = n := by omega
                      subst this; exact hv
            rcases this j0 (Nat.le_refl _) with h | h
            · exact h
            · exact ⟨j0, ⟨hj0, hj0f⟩, h⟩
          have hil : i < l.length := by omega
          refine ⟨i, hi.1, mem_ready.2 ⟨?_, l[i], by simp [hil], fun e he hb => hmin _ (hok.lt i l[i] (by simp [hil]) e (binds_edg he hb))⟩⟩
          have := hi.2
          rw [Array.getD_eq_getD_getElem?, Array.getElem?_eq_getElem (by omega)] at this ⊢
          simpa using this
        refine ⟨fun hr => ?_, fun i hi => ?_⟩
        · obtain ⟨i, _, hi⟩ := hexr
          rw [hr] at hi; cases hi
        · obtain ⟨h1, o, ho, he⟩ := mem_ready.1 hi
          have hil : i < l.length := by have := (Array.getElem?_eq_some_iff.1 ho).1; simpa using this
          have ho' : l[i]? = some o := by simpa using ho
          have hif : listed.getD i false = false := by
            rw [Array.getD_eq_getD_getElem?, Array.getElem?_eq_getElem (by omega)] at h1 ⊢
            simpa using h1
          have hdeps : ∀ e ∈ edg o, listed.getD e.on false = true := fun e hem => he e (edg_mem hem) (edg_binds hem)
          have hmask := hclosed i o ho' hdeps
          have him : i < m := by
            rcases Nat.lt_or_ge i m with h | h
            · exact h
            · have := hmask j0 (hok.tail i o ho' h j0 (by omega))
              rw [hj0f] at this; cases this
          have hlook := looks_same (vs := vs) (det := det) (base := base) (S := fun q => listed.getD q false) hok ho' hif hmask (fun j p hp hSj q hq => hclosed j p hp (hcl j p hp hSj) q hq)
          have hset : ∀ q, (listed.setIfInBounds i true).getD q false = if q = i then true else listed.getD q false := by
            intro q
            by_cases hq : i = q
            · subst hq
              rw [Array.getD_eq_getD_getElem?, Array.getElem?_setIfInBounds_self_of_lt (by omega)]
              simp
            · rw [getD_set_ne false hq, if_neg (fun e => hq e.symm)]
          have hSf : (fun q => (listed.setIfInBounds i true).getD q false) = (fun q => if q = i then true else listed.getD q false) := funext hset
          have hcnt : f + ((List.range m).filter fun j => (listed.setIfInBounds i true).getD j false).length = l.length := by
            have : ((List.range m).filter fun j => (listed.setIfInBounds i true).getD j false).length = ((List.range m).filter fun j => listed.getD j false).length + 1 := by
              have e1 : ∀ n, ((List.range n).filter fun j => (listed.setIfInBounds i true).getD j false).length = ((List.range n).filter fun j => listed.getD j false).length + (if i < n then 1 else 0) := by
                intro n
                induction n with
                | zero => simp
                | succ n ihn =>
                  rw [List.range_succ, List.filter_append, List.filter_append, List.length_append, List.length_append, ihn]
                  by_cases hn : n = i
                  · subst hn
                    simp only [List.filter_cons, List.filter_nil, hset, hif, if_true, List.length_cons, List.length_nil, Bool.false_eq_true, if_false, Nat.lt_irrefl, Nat.lt_succ_self]
                  · have : (if i < n + 1 then 1 else 0) = (if i < n then 1 else 0) := by
                      by_cases h : i < n
                      · simp [h]; omega
                      · rw [if_neg (by omega), if_neg h]
                    rw [this]
                    simp only [List.filter_cons, List.filter_nil, hset, if_neg hn]
                    omega
              rw [e1 m, if_pos him]
            omega
          have hnext : ∀ (v : Value) σ' w', Inv (fun q => if q = i then true else listed.getD q false) σ' w' → (∀ j u, listed.getD j false = true → det.getD j none = none → V j u σ w → V j u σ' w') → (match det.getD i none with | some d => v = d | none => V i v σ' w') →
              wpAny P .any l.toArray Q f (listed.setIfInBounds i true) (Act.put ⟨slotsOf vs det (fun q => listed.getD q false) 0 l base, []⟩ o.dst v) w' := by
            intro v σ' w' hI' hst hv
            have hfr : Act.put ⟨slotsOf vs det (fun q => listed.getD q false) 0 l base, []⟩ o.dst v = ⟨slotsOf (fun q => if q = i then v else vs q) det (fun q => (listed.setIfInBounds i true).getD q false) 0 l base, []⟩ := by
              rw [hSf, slotsOf_add v i l 0 base vs _ o (Nat.zero_le _) (by simpa using ho') hif (fun j o'' hj hne d hd => hok.dst i j o o'' ho' hj (by omega) d hd)]
              cases hd : o.dst with
              | none => rfl
              | some d =>
                have : (det.getD i none).getD v = v := by
                  cases hdet : det.getD i none with
                  | none => rfl
                  | some dv => rw [hdet] at hv; exact hv.symm
                simp only [Act.put, this]
            rw [hfr]
            refine ih _ _ σ' w' (by simpa using hsz) (fun j hj => by rw [hset, if_neg (by omega)]; exact hT j hj) ?_ hcnt (hSf ▸ hI') ?_
            · intro j p hp hj e hem
              rw [hset] at hj ⊢
              by_cases hji : j = i
              · subst hji
                have : p = o := by rw [hp] at ho'; injection ho'
                subst this
                split
                · rfl
                · exact hdeps e hem
              · rw [if_neg hji] at hj
                split
                · rfl
                · exact hcl j p hp hj e hem
            · intro j hj hd
              rw [hset] at hj
              by_cases hji : j = i
              · subst hji
                rw [hd] at hv
                simpa using hv
              · rw [if_neg hji] at hj
                simp only [if_neg hji]
                exact hst j _ hj hd (hV j hj hd)
          have hob := ob i o him ho' (fun q => listed.getD q false) vs σ w hmask hif hI hV
          rw [← wanted_same hlook] at hob
          unfold wpOp
          simp only [ho]
          cases hw : Region.wanted o (yielded l.toArray (slotsOf vs det (fun q => listed.getD q false) 0 l base)) with
          | false =>
            rw [hw] at hob
            obtain ⟨hdet, hI'⟩ := hob
            rw [if_neg (by simp)]
            exact hnext undef σ w hI' (fun _ _ _ _ h => h) (by rw [hdet])
          | true =>
            rw [hw] at hob
            rw [if_pos rfl]
            refine .inl ?_
            exact OpGives.wp (OpGives.congr (exec_same (hok.sel o (List.mem_of_getElem? ho')) hlook).symm hob) (fun v σ' w' h => hnext v σ' w' h.1 h.2.1 h.2.2)
  have hinit := key l.toArray.size (Array.replicate l.toArray.size false) (fun _ => undef) σ0 { w with drawn := w.drawn + 1 } (by simp) (fun j _ => by simp [Array.getD_eq_getD_getElem?, Array.getElem?_replicate]; split <;> rfl)
    (fun i o _ h => by
      simp only [Array.getD_eq_getD_getElem?, Array.getElem?_replicate] at h
      split at h <;> simp at h)
    (by
      have : ((List.range m).filter fun j => (Array.replicate l.toArray.size false).getD j false) = [] := by
        rw [List.filter_eq_nil_iff]
        intro j _
        simp only [Array.getD_eq_getD_getElem?, Array.getElem?_replicate]
        split <;> simp
      rw [this]; simp)
    (by
      have : (fun q => (Array.replicate l.toArray.size false).getD q false) = (fun _ => false) := by
        funext q
        simp only [Array.getD_eq_getD_getElem?, Array.getElem?_replicate]
        split <;> rfl
      rw [this]; exact h0)
    (fun j h => by
      simp only [Array.getD_eq_getD_getElem?, Array.getElem?_replicate] at h
      split at h <;> simp at h)
  have hbase : slotsOf (fun _ => undef) det (fun q => (Array.replicate l.toArray.size false).getD q false) 0 l base = base := by
    have : ∀ (l' : List Oper) (k : Nat) (t : Array Value) (S : Nat → Bool), (∀ j, S j = false) → slotsOf (fun _ => undef) det S k l' t = t := by
      intro l'
      induction l' with
      | nil => intros; rfl
      | cons o l' ih => intro k t S hS; rw [slotsOf, hS k]; exact ih _ _ _ hS
    refine this l 0 base _ (fun j => ?_)
    simp only [Array.getD_eq_getD_getElem?, Array.getElem?_replicate]
    split <;> rfl
  rw [hbase] at hinit
  exact hinit
end
end Go.Vk
