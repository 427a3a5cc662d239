/- The walk's own words, part 8: a region that draws its order, with what is there in view. No statement of its own. -/
import Derived.Test.YtfhcockdlfidmaaVk7
namespace Go.Vk
open Go.RowKit
set_option linter.unusedVariables false
set_option linter.unusedSimpArgs false
variable [Dr]
section
variable {P : Program} {l : List Oper} {m : Nat} {base : Array Value} {Q : Exit → Act → World → Prop}
omit [Dr] in
theorem wp_region_inv {id : Nat} {w : World} (hm : P.follows .mixedOrders = true) (m : Nat) (hB : regionOk l m = true) (hml : m ≤ l.length) (Inv : (Nat → Bool) → (Nat → Value) → World → Prop)
    (h0 : Inv (fun _ => false) (fun _ => undef) { w with drawn := w.drawn + 1 })
    (ob : ∀ i o, i < m → l[i]? = some o → ∀ (S : Nat → Bool) (vs : Nat → Value) w, (∀ j, ((masks l []).getD i 0).testBit j = true → S j = true) → S i = false → Inv S vs w →
      match Region.wanted o (yielded l.toArray (slotsOf vs [] (fun q => decide (q < i)) 0 l base)) with
      | false => Inv (fun q => if q = i then true else S q) (fun q => if q = i then undef else vs q) w
      | true => OpGives P (Act.eval ⟨slotsOf vs [] (fun q => decide (q < i)) 0 l base, []⟩) o w (fun v σ' w' => Inv (fun q => if q = i then true else S q) (fun q => if q = i then v else vs q) w'))
    (tail : ∀ (vs : Nat → Value) w, Inv (fun q => decide (q < m)) vs w → wpList P l.toArray Q (l.drop m) ⟨slotsOf vs [] (fun q => decide (q < m)) 0 l base, []⟩ w) :
    (Code.region id l.toArray true).wp P Q ⟨base, []⟩ w := by
  have hok := rok_of hB
  refine wp_region_any hm ?_
  have key : ∀ (f : Nat) (listed : Array Bool) (vs : Nat → Value) (w : World), listed.size = l.length → (∀ j, m ≤ j → listed.getD j false = false) →
      (∀ i o, l[i]? = some o → listed.getD i false = true → ∀ e ∈ edg o, listed.getD e.on false = true) →
      f + ((List.range m).filter fun j => listed.getD j false).length = l.length →
      Inv (fun q => listed.getD q false) vs w →
      wpAny P .any l.toArray Q f listed ⟨slotsOf vs [] (fun q => listed.getD q false) 0 l base, []⟩ w := by
    intro f
    induction f with
    | zero =>
      intro listed vs w hsz hT hcl hf hI
      -- all are listed: m is the length
      have hc : ((List.range m).filter fun j => listed.getD j false).length ≤ m := by have := List.length_filter_le (fun j => listed.getD j false) (List.range m); simpa using this
      have hmm : m = l.length := by omega
      have hall : ∀ j, j < m → listed.getD j false = true := by
        have := List.length_filter_eq_length_iff.1 (show ((List.range m).filter fun j => listed.getD j false).length = (List.range m).length by rw [List.length_range]; omega)
        intro j hj
        exact this j (by simpa using hj)
      have hS : (fun q => listed.getD q false) = (fun q => decide (q < m)) := by
        funext q
        by_cases hq : q < m
        · simp [hall q hq, hq]
        · simp [hT q (by omega), hq]
      have ht := tail vs w (hS ▸ hI)
      have : wpAny P .any l.toArray Q 0 listed ⟨slotsOf vs [] (fun q => decide (q < m)) 0 l base, []⟩ w :=
        any_tail (m := m) hok 0 m listed _ w (by omega) (Nat.le_refl _) (by omega) hsz (fun j => by rw [show listed.getD j false = decide (j < m) from congrFun hS j]) ht
      rw [hS]; exact this
    | succ f ih =>
      intro listed vs w hsz hT hcl hf hI
      by_cases hfull : ∀ j, j < m → listed.getD j false = true
      · have hS : (fun q => listed.getD q false) = (fun q => decide (q < m)) := by
          funext q
          by_cases hq : q < m
          · simp [hfull q hq, hq]
          · simp [hT q (by omega), hq]
        have hcnt : ((List.range m).filter fun j => listed.getD j false).length = m := by
          rw [List.filter_eq_self.2 (fun j hj => hfull j (by simpa using hj))]; simp
        have ht := tail vs w (hS ▸ hI)
        rw [hS]
        exact any_tail (m := m) hok (f + 1) m listed _ w (by omega) (Nat.le_refl _) hml hsz (fun j => by rw [show listed.getD j false = decide (j < m) from congrFun hS j]) ht
      · have hclosed : ∀ j p, l[j]? = some p → (∀ e ∈ edg p, listed.getD e.on false = true) → ∀ q, ((masks l []).getD j 0).testBit q = true → listed.getD q false = true := fun j p hp he q hq =>
          mask_closed (fun j => listed.getD j false = true) l [] [] rfl (fun i o ho hSi e he => hcl i o (by simpa using ho) hSi e he) (fun i o ho e he => hok.lt i o (by simpa using ho) e he) (fun i o j h => by simp at h) j p q (by simpa using hp) he hq
        obtain ⟨j0, hj0, hj0f⟩ : ∃ j, j < m ∧ listed.getD j false = false := by
          apply Classical.byContradiction
          intro hn
          exact hfull (fun j hj => by
            cases h : listed.getD j false
            · exact absurd ⟨j, hj, h⟩ hn
            · rfl)
        -- the first that isn't listed is ready
        have hexr : ∃ i, i < m ∧ i ∈ Region.ready .any l.toArray listed := by
          obtain ⟨i, hi, hmin⟩ : ∃ i, (i < m ∧ listed.getD i false = false) ∧ ∀ j, j < i → listed.getD j false = true := by
            have : ∀ n, n ≤ j0 → (∃ i, (i < m ∧ listed.getD i false = false) ∧ ∀ j, j < i → listed.getD j false = true) ∨ ∀ j, j < n → listed.getD j false = true := by
              intro n
              induction n with
              | zero => intro _; exact .inr (fun j hj => absurd hj (by omega))
              | succ n ihn =>
                intro hn
                rcases ihn (by omega) with h | h
                · exact .inl h
                · cases hv : listed.getD n false
                  · exact .inl ⟨n, ⟨by omega, hv⟩, h⟩
                  · refine .inr (fun j hj => ?_)
                    rcases Nat.lt_or_ge j n with h1 | h1
                    · exact h j h1
                    · have : j = n := by omega
                      subst this; exact hv
            rcases this j0 (Nat.le_refl _) with h | h
            · exact h
            · exact ⟨j0, ⟨hj0, hj0f⟩, h⟩
          have hil : i < l.length := by omega
          refine ⟨i, hi.1, mem_ready.2 ⟨?_, l[i], by simp [hil], fun e he hb => hmin _ (hok.lt i l[i] (by simp [hil]) e (binds_edg he hb))⟩⟩
          have := hi.2
          rw [Array.getD_eq_getD_getElem?, Array.getElem?_eq_getElem (by omega)] at this ⊢
          simpa using this
        refine ⟨fun hr => ?_, fun i hi => ?_⟩
        · obtain ⟨i, _, hi⟩ := hexr
          rw [hr] at hi; cases hi
        · obtain ⟨h1, o, ho, he⟩ := mem_ready.1 hi
          have hil : i < l.length := by have := (Array.getElem?_eq_some_iff.1 ho).1; simpa using this
          have ho' : l[i]? = some o := by simpa using ho
          have hif : listed.getD i false = false := by
            rw [Array.getD_eq_getD_getElem?, Array.getElem?_eq_getElem (by omega)] at h1 ⊢
            simpa using h1
          have hdeps : ∀ e ∈ edg o, listed.getD e.on false = true := fun e hem => he e (edg_mem hem) (edg_binds hem)
          have hmask := hclosed i o ho' hdeps
          have him : i < m := by
            rcases Nat.lt_or_ge i m with h | h
            · exact h
            · have := hmask j0 (hok.tail i o ho' h j0 (by omega))
              rw [hj0f] at this; cases this
          have hlook := looks_same (vs := vs) (det := []) (base := base) (S := fun q => listed.getD q false) hok ho' hif hmask (fun j p hp hSj q hq => hclosed j p hp (hcl j p hp hSj) q hq)
          have hset : ∀ q, (listed.setIfInBounds i true).getD q false = if q = i then true else listed.getD q false := by
            intro q
            by_cases hq : i = q
            · subst hq
              rw [Array.getD_eq_getD_getElem?, Array.getElem?_setIfInBounds_self_of_lt (by omega)]
              simp
            · rw [getD_set_ne false hq, if_neg (fun e => hq e.symm)]
          have hSf : (fun q => (listed.setIfInBounds i true).getD q false) = (fun q => if q = i then true else listed.getD q false) := funext hset
          have hcnt : f + ((List.range m).filter fun j => (listed.setIfInBounds i true).getD j false).length = l.length := by
            have : ((List.range m).filter fun j => (listed.setIfInBounds i true).getD j false).length = ((List.range m).filter fun j => listed.getD j false).length + 1 := by
              have e1 : ∀ n, ((List.range n).filter fun j => (listed.setIfInBounds i true).getD j false).length = ((List.range n).filter fun j => listed.getD j false).length + (if i < n then 1 else 0) := by
                intro n
                induction n with
                | zero => simp
                | succ n ihn =>
                  rw [List.range_succ, List.filter_append, List.filter_append, List.length_append, List.length_append, ihn]
                  by_cases hn : n = i
                  · subst hn
                    simp only [List.filter_cons, List.filter_nil, hset, hif, if_true, List.length_cons, List.length_nil, Bool.false_eq_true, if_false, Nat.lt_irrefl, Nat.lt_succ_self]
                  · have : (if i < n + 1 then 1 else 0) = (if i < n then 1 else 0) := by
                      by_cases h : i < n
                      · simp [h]; omega
                      · rw [if_neg (by omega), if_neg h]
                    rw [this]
                    simp only [List.filter_cons, List.filter_nil, hset, if_neg hn]
                    omega
              rw [e1 m, if_pos him]
            omega
          have hnext : ∀ (v : Value) w', Inv (fun q => if q = i then true else listed.getD q false) (fun q => if q = i then v else vs q) w' →
              wpAny P .any l.toArray Q f (listed.setIfInBounds i true) (Act.put ⟨slotsOf vs [] (fun q => listed.getD q false) 0 l base, []⟩ o.dst v) w' := by
            intro v w' hI'
            have hfr : Act.put ⟨slotsOf vs [] (fun q => listed.getD q false) 0 l base, []⟩ o.dst v = ⟨slotsOf (fun q => if q = i then v else vs q) [] (fun q => (listed.setIfInBounds i true).getD q false) 0 l base, []⟩ := by
              rw [hSf, slotsOf_add v i l 0 base vs _ o (Nat.zero_le _) (by simpa using ho') hif (fun j o'' hj hne d hd => hok.dst i j o o'' ho' hj (by omega) d hd)]
              cases hd : o.dst with
              | none => rfl
              | some d => simp [Act.put]
            rw [hfr]
            refine ih _ _ w' (by simpa using hsz) (fun j hj => by rw [hset, if_neg (by omega)]; exact hT j hj) ?_ hcnt (hSf ▸ hI')
            · intro j p hp hj e hem
              rw [hset] at hj ⊢
              by_cases hji : j = i
              · subst hji
                have : p = o := by rw [hp] at ho'; injection ho'
                subst this
                split
                · rfl
                · exact hdeps e hem
              · rw [if_neg hji] at hj
                split
                · rfl
                · exact hcl j p hp hj e hem
          have hob := ob i o him ho' (fun q => listed.getD q false) vs w hmask hif hI
          rw [← wanted_same hlook] at hob
          unfold wpOp
          simp only [ho]
          cases hw : Region.wanted o (yielded l.toArray (slotsOf vs [] (fun q => listed.getD q false) 0 l base)) with
          | false =>
            rw [hw] at hob
            rw [if_neg (by simp)]
            exact hnext undef w hob
          | true =>
            rw [hw] at hob
            rw [if_pos rfl]
            refine .inl ?_
            exact OpGives.wp (OpGives.congr (exec_same (hok.sel o (List.mem_of_getElem? ho')) hlook).symm hob) (fun v σ' w' h => hnext v w' h)
  have hinit := key l.toArray.size (Array.replicate l.toArray.size false) (fun _ => undef) { w with drawn := w.drawn + 1 } (by simp) (fun j _ => by simp [Array.getD_eq_getD_getElem?, Array.getElem?_replicate]; split <;> rfl)
    (fun i o _ h => by
      simp only [Array.getD_eq_getD_getElem?, Array.getElem?_replicate] at h
      split at h <;> simp at h)
    (by
      have : ((List.range m).filter fun j => (Array.replicate l.toArray.size false).getD j false) = [] := by
        rw [List.filter_eq_nil_iff]
        intro j _
        simp only [Array.getD_eq_getD_getElem?, Array.getElem?_replicate]
        split <;> simp
      rw [this]; simp)
    (by
      have : (fun q => (Array.replicate l.toArray.size false).getD q false) = (fun _ => false) := by
        funext q
        simp only [Array.getD_eq_getD_getElem?, Array.getElem?_replicate]
        split <;> rfl
      rw [this]; exact h0)
  have hbase : slotsOf (fun _ => undef) [] (fun q => (Array.replicate l.toArray.size false).getD q false) 0 l base = base := by
    have : ∀ (l' : List Oper) (k : Nat) (t : Array Value) (S : Nat → Bool), (∀ j, S j = false) → slotsOf (fun _ => undef) [] S k l' t = t := by
      intro l'
      induction l' with
      | nil => intros; rfl
      | cons o l' ih => intro k t S hS; rw [slotsOf, hS k]; exact ih _ _ _ hS
    refine this l 0 base _ (fun j => ?_)
    simp only [Array.getD_eq_getD_getElem?, Array.getElem?_replicate]
    split <;> rfl
  rw [hbase] at hinit
  exact hinit
end
end Go.Vk
