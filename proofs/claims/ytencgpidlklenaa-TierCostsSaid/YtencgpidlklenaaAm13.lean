/- The abstract machine, part 13: a region that draws its order. No statement of its own. -/
import Derived.Test.YtencgpidlklenaaAm7
namespace Go.Am
open Go.Vk Go.RowKit
set_option linter.unusedVariables false
set_option linter.unusedSimpArgs false

/-- A frame, as far as an operation of mask s may look: the values of the first i operations. -/
def maskT (vals : List AV) (s i : Nat) : Nat → List Oper → List AV → List AV
  | _, [], t => t
  | k, o :: l, t => maskT vals s i (k + 1) l (match Nat.blt k i, o.dst with
    | true, some d => t.set d (match s.testBit k with
      | true => vals.getD k .unk
      | false => .unk)
    | _, _ => t)
/-- An operation that leaves what is there. -/
def opV (P : Program) (hs : List (Hnd P)) (tm : List AV) (H : List AB) (o : Oper) (X : Type) (k : AV → Option X) : Option X :=
  match o.op with
  | .move x => k (aeval tm x)
  | .assign x => k (aeval tm x)
  | .pick c x y => match pickX (aeval tm c) (aeval tm x) (aeval tm y) with
    | some v => k v
    | none => none
  | .load t x => match loadX P H t (aeval tm x) with
    | some v => k v
    | none => none
  | .build t ps => match buildX P tm t ps.toList with
    | some v => k v
    | none => none
  | .extract x i => match extractX (aeval tm x) i with
    | some v => k v
    | none => match pureX P o (aeval tm) with
      | some v => k (.val v)
      | none => none
  | .fieldAddr t x f => match fieldX P t f (aeval tm x) with
    | some v => k v
    | none => none
  | .indexAddr t x i => match indexX P H t (aeval tm x) (aeval tm i) with
    | some (c, v) => bifA c (k v) none
    | none => none
  | .slice t x lo hi none => match cutX P tm t (aeval tm x) lo hi with
    | some (c, v) => bifA c (k v) none
    | none => none
  | .call ⟨.builtin .len, ⟨[x]⟩, ⟨[t]⟩⟩ => match lenX P H t (aeval tm x) with
    | some v => k v
    | none => match pureX P o (aeval tm) with
      | some v => k (.val v)
      | none => none
  | .call ⟨.value (.func f), args, _⟩ => match findH f hs with
    | some h => match h.v with
      | some g => g X (args.toList.map (aeval tm)) H k
      | none => none
    | none => match pureX P o (aeval tm) with
      | some v => k (.val v)
      | none => none
  | .binOp .. => match divX o (aeval tm) with
    | some (c, v) => bifA c (k (.val v)) none
    | none => match eqX P o (aeval tm) with
      | some v => k (.val v)
      | none => match pureX P o (aeval tm) with
        | some v => k (.val v)
        | none => none
  | _ => match pureX P o (aeval tm) with
    | some v => k (.val v)
    | none => none
theorem pureV_out {P : Program} {tm : List AV} {H : List AB} {o : Oper} {X : Type} {k : AV → Option X} {x : X} (h : (match pureX P o (aeval tm) with | some v => k (.val v) | none => none) = some x) : ∃ av, k av = some x ∧ OpSem P tm H o H av := by
  split at h
  · rename_i v hv
    exact ⟨_, h, fun E σ τ β a w hC => pureX_sound hC hv⟩
  · cases h
theorem opV_sound {P : Program} {hs : List (Hnd P)} {tm : List AV} {H : List AB} {o : Oper} {X : Type} {k : AV → Option X} {x : X} (h : opV P hs tm H o X k = some x) : ∃ av, k av = some x ∧ OpSem P tm H o H av := by
  unfold opV at h
  split at h
  · rename_i y ho; exact ⟨_, h, fun E σ τ β a w hC => move_sound hC (.inl ho)⟩
  · rename_i y ho; exact ⟨_, h, fun E σ τ β a w hC => move_sound hC (.inr ho)⟩
  · rename_i c y z ho
    split at h
    · rename_i v hv; exact ⟨_, h, fun E σ τ β a w hC => pick_sound hC ho hv⟩
    · cases h
  · rename_i T y ho
    split at h
    · rename_i v hv; exact ⟨_, h, fun E σ τ β a w hC => load_sound hC ho hv⟩
    · cases h
  · rename_i T ps ho
    split at h
    · rename_i v hv; exact ⟨_, h, fun E σ τ β a w hC => build_sound hC ho hv⟩
    · cases h
  · rename_i y i ho
    split at h
    · rename_i v hv; exact ⟨_, h, fun E σ τ β a w hC => extract_sound hC ho hv⟩
    · exact pureV_out h
  · rename_i T y f ho
    split at h
    · rename_i v hv; exact ⟨_, h, fun E σ τ β a w hC => fieldAddr_sound hC ho hv⟩
    · cases h
  · rename_i T y i ho
    split at h
    · rename_i c v hv
      obtain ⟨rfl, h⟩ := bif_some h
      exact ⟨_, h, fun E σ τ β a w hC => index_sound hC ho hv⟩
    · cases h
  · rename_i T y lo hi ho
    split at h
    · rename_i c v hv
      obtain ⟨rfl, h⟩ := bif_some h
      exact ⟨_, h, fun E σ τ β a w hC => cut_sound hC ho hv⟩
    · cases h
  · rename_i y t ho
    split at h
    · rename_i v hv; exact ⟨_, h, fun E σ τ β a w hC => len_sound hC ho hv⟩
    · exact pureV_out h
  · rename_i f args tys ho
    split at h
    · rename_i hd hf
      split at h
      · rename_i g hg
        obtain ⟨av, h1, h2⟩ := hd.vok g hg X _ H k x h
        refine ⟨av, h1, fun E σ τ β a w hC => ?_⟩
        have hff := findH_f hf
        have hc := h2 E σ τ β tm a w _ hC (args_rel hC args.toList)
        have hrun : (execOp a.eval o).run P w = .ok (.enter f (args.toList.map a.eval).toArray) w := by
          have := hd.ent (args.toList.map a.eval).toArray w
          rw [hff] at this
          have ha : args.map a.eval = (args.toList.map a.eval).toArray := by rw [← Array.toList_map]
          simp only [execOp, ho, resolve, Act.eval, Deferred.ofValue, Sem.run_bind, Sem.run_pure, Result.andThen_ok, invoke, ha]
          simpa using this
        unfold OpOut OpGives
        rw [hrun]
        rw [hff] at hc
        exact hc
      · cases h
    · exact pureV_out h
  · split at h
    · rename_i c v hv
      obtain ⟨rfl, h⟩ := bif_some h
      exact ⟨_, h, fun E σ τ β a w hC => divX_sound hC hv⟩
    · split at h
      · rename_i v hv; exact ⟨_, h, fun E σ τ β a w hC => eqX_sound hC hv⟩
      · exact pureV_out h
  · exact pureV_out h

/-- no operation but j sets slot d -/
def onceX (d j : Nat) : Nat → List Oper → Bool
  | _, [] => true
  | k, o :: r => (Nat.beq k j || (match o.dst with
    | some d' => !(Nat.beq d' d)
    | none => true)) && onceX d j (k + 1) r
def onceB (l : List Oper) (tm : List AV) (s i j : Nat) : Bool :=
  match (l[j]?).bind (·.dst) with
  | some d => (Nat.blt d tm.length && Nat.blt j i) && (s.testBit j && onceX d j 0 l)
  | none => false
theorem maskT_keep {vals : List AV} {s i d j : Nat} : ∀ (l : List Oper) (k : Nat) (t : List AV), onceX d j k l = true → j < k → (maskT vals s i k l t)[d]? = t[d]?
  | [], k, t, _, _ => rfl
  | o :: r, k, t, h, hj => by
    simp only [onceX, Bool.and_eq_true, Bool.or_eq_true] at h
    rw [maskT, maskT_keep r (k + 1) _ h.2 (by omega)]
    have h1 : (match o.dst with | some d' => !(Nat.beq d' d) | none => true) = true := by
      rcases h.1 with h1 | h1
      · have := Nat.eq_of_beq_eq_true h1; omega
      · exact h1
    cases hb : Nat.blt k i with
    | false => rfl
    | true =>
      cases hd : o.dst with
      | none => rfl
      | some d' =>
        rw [hd] at h1
        have h2 : Nat.beq d' d = false := by simpa using h1
        have h3 : d' ≠ d := fun e => by rw [e] at h2; simp at h2
        simp only [List.getElem?_set]
        rw [if_neg h3]
theorem maskT_at {vals : List AV} {s i d j : Nat} (hji : j < i) (hs : s.testBit j = true) : ∀ (l : List Oper) (k : Nat) (t : List AV), onceX d j k l = true → k ≤ j → (l[j - k]?).bind (·.dst) = some d → d < t.length → (maskT vals s i k l t)[d]? = some (vals.getD j .unk)
  | [], k, t, _, _, h, _ => by simp at h
  | o :: r, k, t, h, hk, hd, hl => by
    simp only [onceX, Bool.and_eq_true, Bool.or_eq_true] at h
    rw [maskT]
    rcases Nat.eq_or_lt_of_le hk with he | hlt
    · subst he
      rw [maskT_keep r (k + 1) _ h.2 (by omega)]
      rw [Nat.sub_self] at hd
      have hd : o.dst = some d := by simpa using hd
      have hb : Nat.blt k i = true := Nat.ble_eq_true_of_le hji
      rw [hd, hb, hs]
      simp [List.getElem?_set, hl]
    · refine maskT_at hji hs r (k + 1) _ h.2 (by omega) ?_ ?_
      · rw [show j - k = (j - (k + 1)) + 1 by omega, List.getElem?_cons_succ] at hd
        exact hd
      · split
        · simpa using hl
        · exact hl
theorem onceB_guard {l : List Oper} {tm vals : List AV} {s i j : Nat} {c : Bool} (h : onceB l tm s i j = true) (hv : vals[j]? = some (.val (.bool c))) : ∃ d, guardX l (maskT vals s i 0 l tm) j = some (d, c) := by
  unfold onceB at h
  split at h
  · rename_i d hd
    simp only [Bool.and_eq_true] at h
    obtain ⟨⟨h1, h2⟩, h3, h4⟩ := h
    have := maskT_at (vals := vals) (Nat.le_of_ble_eq_true h2) h3 l 0 tm h4 (Nat.zero_le _) (by simpa using hd) (Nat.le_of_ble_eq_true h1)
    refine ⟨d, ?_⟩
    unfold guardX
    rw [hd]
    simp only [this, List.getD_eq_getElem?_getD, hv, Option.getD_some]
  · cases h
/-- A new variable, which nobody looks at ahead of the tail. -/
def allocX (P : Program) (o : Oper) : Option (TypeId × Value) :=
  match o.op, o.guard with
  | .alloc T, none => match (P.info? T).bind (·.zero) with
    | some z => some (T, z)
    | none => none
  | _, _ => none
def allocL (P : Program) : Nat → Nat → List Oper → List (Nat × TypeId × Value)
  | _, 0, _ => []
  | _, _ + 1, [] => []
  | k, n + 1, o :: r => match allocX P o with
    | some p => (k, p) :: allocL P (k + 1) n r
    | none => allocL P (k + 1) n r
def setA : List (Nat × TypeId × Value) → List AV → List AB → List AV × List AB
  | [], V, H => (V, H)
  | (j, T, z) :: l, V, H => setA l (V.set j (.ptr H.length 0)) (H ++ [.cells T (z.cells.toList.map .val)])
/-- The first operations, whatever their order. -/
def drawX (P : Program) (hs : List (Hnd P)) (l : List Oper) (ms : List Nat) (tm : List AV) (H : List AB) (X : Type) : Nat → List Oper → Nat → List AV → List Bool → (List AV → List Bool → Option X) → Option X
  | _, _, 0, vals, sk, k => k vals sk
  | _, [], _ + 1, _, _, _ => none
  | i, o :: r, n + 1, vals, sk, k => match o.guard with
    | none => match allocX P o with
      | some _ => drawX P hs l ms tm H X (i + 1) r n (vals ++ [.unk]) (sk ++ [false]) k
      | none => opV P hs (maskT vals (ms.getD i 0) i 0 l tm) H o X fun v => drawX P hs l ms tm H X (i + 1) r n (vals ++ [v]) (sk ++ [false]) k
    | some (j, want) => match vals[j]?, onceB l tm (ms.getD i 0) i j with
      | some (.val (.bool c)), true => bifA (wb c want)
        (opV P hs (maskT (vals.set j (.val (.bool want))) (ms.getD i 0) i 0 l tm) H o X fun v => drawX P hs l ms tm H X (i + 1) r n (vals.set j (.val (.bool want)) ++ [v]) (sk ++ [false]) k)
        (drawX P hs l ms tm H X (i + 1) r n (vals.set j (.val (.bool (!want))) ++ [.val undef]) (sk ++ [true]) k)
      | _, _ => none
/-- What is known of operation q. -/
def Fact (P : Program) (l : List Oper) (ms : List Nat) (tm : List AV) (H : List AB) (V : List AV) (S : List Bool) (q : Nat) (o : Oper) : Prop :=
  ∀ (E : Env) (σ : Gh) (τ : Nat → Nat) (β : List Value) (a : Act) (w : World), Conc E σ τ β ⟨maskT V (ms.getD q 0) q 0 l tm, H⟩ a w →
    match Region.wanted o (yielded l.toArray a.tmps) with
    | false => S.getD q false = true ∧ V.getD q .unk = .val undef
    | true => S.getD q false = false ∧ (allocX P o = none → OpGives P a.eval o w (fun v σ' w' => ∃ τ' β' tmx, (∃ s, β' = β ++ s) ∧ EvT (Rng E) σ w σ' w' ∧ Conc E σ' τ' β' ⟨tmx, H⟩ a w' ∧ Rel E σ' w' β' (V.getD q .unk) v))
section
variable {P : Program} {E : Env} {σ σ1 : Gh} {τ : Nat → Nat} {w w1 : World} {β : List Value} {tm : List AV} {H : List AB} {a : Act} {X : Type} {x : X} {hs : List (Hnd P)}
theorem maskT_rel {vals : List AV} {s i : Nat} {vs : Nat → Value} {det : List (Option Value)} : ∀ (l : List Oper) (k : Nat) {t : List AV} {T : Array Value}, RelL E σ w β t T.toList →
    (∀ q, q < i → s.testBit q = true → Rel E σ w β (vals.getD q .unk) ((det.getD q none).getD (vs q))) → RelL E σ w β (maskT vals s i k l t) (slotsOf vs det (fun q => decide (q < i)) k l T).toList
  | [], k, t, T, h, _ => h
  | o :: l, k, t, T, h, hv => by
    rw [maskT, slotsOf]
    refine maskT_rel l (k + 1) ?_ hv
    cases hb : Nat.blt k i with
    | false =>
      have hk : decide (k < i) = false := by
        rw [decide_eq_false_iff_not]
        intro hlt
        have : Nat.blt k i = true := Nat.ble_eq_true_of_le hlt
        rw [hb] at this; cases this
      simp only [hk]
      exact h
    | true =>
      have hlt : k < i := Nat.le_of_ble_eq_true hb
      have hk : decide (k < i) = true := by simpa using hlt
      cases hd : o.dst with
      | none => simp only [hk]; exact h
      | some d =>
        simp only [hk]
        rw [Array.toList_setIfInBounds]
        refine RelL.set h d ?_
        cases hs : s.testBit k with
        | true => exact hv k hlt hs
        | false => simp [Rel]
theorem maskT_more {vals more : List AV} {s i : Nat} (hi : i ≤ vals.length) : ∀ (l : List Oper) (k : Nat) (t : List AV), maskT (vals ++ more) s i k l t = maskT vals s i k l t
  | [], k, t => rfl
  | o :: l, k, t => by
    rw [maskT, maskT, maskT_more hi l]
    congr 1
    cases hb : Nat.blt k i with
    | false => rfl
    | true =>
      have hlt : k < i := Nat.le_of_ble_eq_true hb
      have : (vals ++ more).getD k .unk = vals.getD k .unk := by
        rw [List.getD_eq_getElem?_getD, List.getD_eq_getElem?_getD, List.getElem?_append_left (by omega)]
      rw [this]
theorem drawX_sound {l : List Oper} {ms : List Nat} : ∀ (n i : Nat) (r : List Oper) {vals : List AV} {sk : List Bool} {k : List AV → List Bool → Option X}, drawX P hs l ms tm H X i r n vals sk k = some x → l.drop i = r → vals.length = i → sk.length = i →
    ∃ V S, k V S = some x ∧ (∃ v', V = vals ++ v') ∧ (∃ s', S = sk ++ s') ∧ V.length = i + n ∧ S.length = i + n ∧ (∀ q, i ≤ q → q < i + n → ∀ o, l[q]? = some o → Fact P l ms tm H V S q o) ∧ (∀ q, i ≤ q → q < i + n → S.getD q false = true → V.getD q .unk = .val undef) ∧ (∀ q, i ≤ q → q < i + n → ∀ o, l[q]? = some o → allocX P o ≠ none → S.getD q false = false ∧ V.getD q .unk = .unk)
  | 0, i, r, vals, sk, k, h, _, hv, hsk => ⟨vals, sk, by simpa [drawX] using h, ⟨[], by simp⟩, ⟨[], by simp⟩, by omega, by omega, fun q h1 h2 => by omega, fun q h1 h2 => by omega, fun q h1 h2 => by omega⟩
  | n + 1, i, [], vals, sk, k, h, _, _, _ => by simp [drawX] at h
  | n + 1, i, o :: r, vals, sk, k, h, hd, hv, hsk => by
    have hlo : l[i]? = some o := by
      have : (l.drop i)[0]? = some o := by rw [hd]; rfl
      rw [List.getElem?_drop, Nat.add_zero] at this
      exact this
    have hdr : l.drop (i + 1) = r := by
      rw [← List.drop_drop, hd]; rfl
    have fin : ∀ (v : AV) (b : Bool), drawX P hs l ms tm H X (i + 1) r n (vals ++ [v]) (sk ++ [b]) k = some x → (∀ V S, (∃ v', V = vals ++ v') → V.getD i .unk = v → S.getD i false = b → Fact P l ms tm H V S i o) → (b = true → v = .val undef) → (allocX P o ≠ none → b = false ∧ v = .unk) →
        ∃ V S, k V S = some x ∧ (∃ v', V = vals ++ v') ∧ (∃ s', S = sk ++ s') ∧ V.length = i + (n + 1) ∧ S.length = i + (n + 1) ∧ (∀ q, i ≤ q → q < i + (n + 1) → ∀ o, l[q]? = some o → Fact P l ms tm H V S q o) ∧ (∀ q, i ≤ q → q < i + (n + 1) → S.getD q false = true → V.getD q .unk = .val undef) ∧ (∀ q, i ≤ q → q < i + (n + 1) → ∀ o, l[q]? = some o → allocX P o ≠ none → S.getD q false = false ∧ V.getD q .unk = .unk) := by
      intro v b hx hf hbv hba
      obtain ⟨V, S, h1, ⟨v', h2⟩, ⟨s', h3⟩, h4, h5, h6, h7, h8⟩ := drawX_sound n (i + 1) r hx hdr (by simp [hv]) (by simp [hsk])
      have hV : V = vals ++ ([v] ++ v') := by rw [h2, List.append_assoc]
      have hS : S = sk ++ ([b] ++ s') := by rw [h3, List.append_assoc]
      have gV : V.getD i .unk = v := by rw [hV, List.getD_eq_getElem?_getD, List.getElem?_append_right (by omega), hv, Nat.sub_self]; rfl
      have gS : S.getD i false = b := by rw [hS, List.getD_eq_getElem?_getD, List.getElem?_append_right (by omega), hsk, Nat.sub_self]; rfl
      refine ⟨V, S, h1, ⟨_, hV⟩, ⟨_, hS⟩, by omega, by omega, fun q hq1 hq2 o' ho' => ?_, fun q hq1 hq2 hq3 => ?_, fun q hq1 hq2 o' ho' hq3 => ?_⟩
      · rcases Nat.eq_or_lt_of_le hq1 with he | hlt
        · subst he
          rw [hlo] at ho'
          obtain rfl := Option.some.inj ho'
          exact hf V S ⟨_, hV⟩ gV gS
        · exact h6 q hlt (by omega) o' ho'
      · rcases Nat.eq_or_lt_of_le hq1 with he | hlt
        · subst he
          rw [gV]; rw [gS] at hq3; exact hbv hq3
        · exact h7 q hlt (by omega) hq3
      · rcases Nat.eq_or_lt_of_le hq1 with he | hlt
        · subst he
          rw [hlo] at ho'
          obtain rfl := Option.some.inj ho'
          rw [gV, gS]; exact hba hq3
        · exact h8 q hlt (by omega) o' ho' hq3
    simp only [drawX] at h
    split at h
    · rename_i hg
      split at h
      · rename_i p hal
        refine fin .unk false h (fun V S ⟨v', hV⟩ hVi hSi E σ τ β a w hC => ?_) (fun h => by cases h) (fun _ => ⟨rfl, rfl⟩)
        have hw : Region.wanted o (yielded l.toArray a.tmps) = true := by simp [Region.wanted, hg]
        rw [hw]
        exact ⟨hSi, fun hn => by rw [hal] at hn; cases hn⟩
      rename_i hal
      obtain ⟨av, h1, h2⟩ := opV_sound h
      refine fin av false h1 (fun V S ⟨v', hV⟩ hVi hSi E σ τ β a w hC => ?_) (fun h => by cases h) (fun hne => absurd hal hne)
      rw [hV, maskT_more (by omega)] at hC
      have hw : Region.wanted o (yielded l.toArray a.tmps) = true := by simp [Region.wanted, hg]
      rw [hw]
      refine ⟨hSi, fun _ => OpGives.mono (h2 E σ τ β a w hC) ?_⟩
      rintro v σ' w' ⟨τ', β', e0, e1, e2, e3⟩
      exact ⟨τ', β', _, e0, e1, e2, by rw [hVi]; exact e3⟩
    · rename_i j want hg
      split at h
      · rename_i c hvj hon
        obtain ⟨d, hc⟩ := onceB_guard hon hvj
        cases hcw : wb c want with
        | true =>
          rw [hcw] at h
          rw [wb_eq] at hcw
          obtain rfl : c = want := by simpa using hcw
          simp only [bifA, set_same' hvj] at h
          obtain ⟨av, h1, h2⟩ := opV_sound h
          refine fin av false h1 (fun V S ⟨v', hV⟩ hVi hSi E σ τ β a w hC => ?_) (fun h => by cases h) (fun hne => absurd (by simp [allocX, hg]) hne)
          rw [hV, maskT_more (by omega)] at hC
          obtain ⟨hy, hu⟩ := guardX_sound hC hc
          have hw : Region.wanted o (yielded l.toArray a.tmps) = true := by simp [Region.wanted, hg, hy]
          rw [hw]
          refine ⟨hSi, fun _ => OpGives.mono (h2 E σ τ β a w hC) ?_⟩
          rintro v σ' w' ⟨τ', β', e0, e1, e2, e3⟩
          exact ⟨τ', β', _, e0, e1, e2, by rw [hVi]; exact e3⟩
        | false =>
          rw [hcw] at h
          rw [wb_eq] at hcw
          obtain rfl : c = !want := by cases c <;> cases want <;> simp_all
          simp only [bifA, set_same' hvj] at h
          refine fin (.val undef) true h (fun V S ⟨v', hV⟩ hVi hSi E σ τ β a w hC => ?_) (fun _ => rfl) (fun hne => absurd (by simp [allocX, hg]) hne)
          rw [hV, maskT_more (by omega)] at hC
          obtain ⟨hy, hu⟩ := guardX_sound hC hc
          have hw : Region.wanted o (yielded l.toArray a.tmps) = false := by
            simp only [Region.wanted, hg, hy]
            cases want <;> rfl
          rw [hw]
          exact ⟨hSi, hVi⟩
      · cases h

/-- All operations from m on lie behind all that are ahead of them. -/
def fullB (s : Nat) : Nat → Bool
  | 0 => true
  | i + 1 => s.testBit i && fullB s i
def mOf (ms : List Nat) : Nat → Nat
  | 0 => 0
  | n + 1 => match fullB (ms.getD n 0) n with
    | true => mOf ms n
    | false => n + 1
def detOf (S : List Bool) : List (Option Value) := S.map fun b => match b with
  | true => some undef
  | false => none
theorem detOf_get (S : List Bool) (q : Nat) : (detOf S).getD q none = (match S.getD q false with | true => some undef | false => none) := by
  unfold detOf
  rw [List.getD_eq_getElem?_getD, List.getD_eq_getElem?_getD, List.getElem?_map]
  cases S[q]? with
  | none => rfl
  | some b => cases b <;> rfl
theorem BRel.env {E' : Env} {t : Nat} {v : Value} {x : AB} (hE : ∀ t, E.Pr t → E'.Pr t) (h : BRel E σ w β t v x) : BRel E' σ w β t v x := by
  induction x with
  | cells T cs =>
    obtain ⟨n, vs, h1, h2, h3⟩ := h
    exact ⟨n, vs, h1, h2, RelL.env hE h3⟩
  | row T et xs => exact h
  | gone => trivial
  | lock x ih => exact ih h
theorem allocL_ge : ∀ {k n : Nat} {l : List Oper} {e : Nat × TypeId × Value}, e ∈ allocL P k n l → k ≤ e.1 ∧ e.1 < k + n ∧ ∃ o, l[e.1 - k]? = some o ∧ allocX P o = some e.2
  | _, 0, _, e, h => by simp [allocL] at h
  | _, _ + 1, [], e, h => by simp [allocL] at h
  | k, n + 1, o :: r, e, h => by
    have hrec : e ∈ allocL P (k + 1) n r → k ≤ e.1 ∧ e.1 < k + (n + 1) ∧ ∃ o', (o :: r)[e.1 - k]? = some o' ∧ allocX P o' = some e.2 := fun h => by
      obtain ⟨h1, h2, o', h3, h4⟩ := allocL_ge h
      exact ⟨by omega, by omega, o', by rw [show e.1 - k = (e.1 - (k + 1)) + 1 by omega]; exact h3, h4⟩
    simp only [allocL] at h
    split at h
    · rename_i p hp
      rcases List.mem_cons.1 h with rfl | h
      · exact ⟨Nat.le_refl _, by simp, o, by simp, hp⟩
      · exact hrec h
    · exact hrec h
theorem allocL_pw : ∀ {k n : Nat} {l : List Oper}, (allocL P k n l).Pairwise (fun a b => a.1 < b.1)
  | _, 0, _ => by simp [allocL]
  | _, _ + 1, [] => by simp [allocL]
  | k, n + 1, o :: r => by
    simp only [allocL]
    split
    · exact List.pairwise_cons.2 ⟨fun e he => by have := (allocL_ge he).1; simp only; omega, allocL_pw⟩
    · exact allocL_pw
theorem allocL_mem : ∀ {k n : Nat} {l : List Oper} {q : Nat} {o : Oper} {p : TypeId × Value}, q < n → l[q]? = some o → allocX P o = some p → (k + q, p) ∈ allocL P k n l
  | _, 0, _, q, o, p, hq, _, _ => by omega
  | _, n + 1, [], q, o, p, _, ho, _ => by simp at ho
  | k, n + 1, x :: r, 0, o, p, _, ho, hp => by
    simp only [List.getElem?_cons_zero, Option.some.injEq] at ho
    subst ho
    simp [allocL, hp]
  | k, n + 1, x :: r, q + 1, o, p, hq, ho, hp => by
    have := allocL_mem (k := k + 1) (n := n) (q := q) (by omega) (by simpa using ho) hp
    rw [show k + (q + 1) = k + 1 + q by omega]
    simp only [allocL]
    split
    · exact List.mem_cons_of_mem _ this
    · exact this
theorem setA_pres : ∀ (L : List (Nat × TypeId × Value)) (V : List AV) (H : List AB), HPres H (setA L V H).2
  | [], V, H => .refl H
  | (j, T, z) :: l, V, H => .trans (.app _ _) (setA_pres l _ _)
/-- The new variables, one by one. -/
theorem setA_sound {r m : Nat} {vs : Nat → Value} : ∀ (L : List (Nat × TypeId × Value)) {τ : Nat → Nat} {β : List Value} {H : List AB} {V : List AV}, Conc E σ τ β ⟨tm, H⟩ a w → V.length = m → (∀ e ∈ L, e.1 < m) → L.Pairwise (fun a b => a.1 < b.1) → E.bnd ≤ r →
    (∀ e ∈ L, ∃ n, vs e.1 = .pointer (some ⟨n, 0, none⟩) ∧ Blk σ (r + e.1) w n e.2.1 e.2.2.cells) → (∀ (i : Nat) (x : AB), H[i]? = some x → x.live = true → ∀ e ∈ L, τ i ≠ r + e.1) →
    (∀ q, q < m → (∀ e ∈ L, e.1 ≠ q) → Rel E σ w β (V.getD q .unk) (vs q)) →
    ∃ τ' β', (∃ s, β' = β ++ s) ∧ Conc E σ τ' β' ⟨tm, (setA L V H).2⟩ a w ∧ ∀ q, q < m → Rel E σ w β' ((setA L V H).1.getD q .unk) (vs q)
  | [], τ, β, H, V, hC, _, _, _, _, _, _, hV => ⟨τ, β, ⟨[], by simp⟩, hC, fun q hq => hV q hq (fun e he => by cases he)⟩
  | (j, T, z) :: l, τ, β, H, V, hC, hm, hlt, hpw, hr, hb, ht, hV => by
    have hsz := hC.size
    simp only at hsz
    obtain ⟨n, h1, h2⟩ := hb (j, T, z) (by simp)
    obtain ⟨hp1, hp2⟩ := List.pairwise_cons.1 hpw
    have hk : ¬ E.Kp (r + j) := fun h => by have := E.low _ h; omega
    have hblk : BRel E σ w (β ++ [.pointer (some ⟨n, 0, none⟩)]) (r + j) (.pointer (some ⟨n, 0, none⟩)) (.cells T (z.cells.toList.map .val)) :=
      ⟨n, z.cells.toList, rfl, by simpa using h2, relL_vals _⟩
    have hN := conc_new (x := .cells T (z.cells.toList.map .val)) hC EvT.refl hk (fun i y hy hl => ht i y hy hl (j, T, z) (by simp)) hblk
    obtain ⟨τ', β', ⟨s, e0⟩, e1, e2⟩ := setA_sound l (V := V.set j (.ptr H.length 0)) hN (by simpa using hm) (fun e he => hlt e (by simp [he])) hp2 hr (fun e he => hb e (by simp [he]))
      (fun i x hx hl e he => by
        rcases Nat.lt_or_ge i H.length with hi | hi
        · rw [List.getElem?_append_left hi] at hx
          simp only [updT, Nat.ne_of_lt hi, if_false]
          exact ht i x hx hl e (by simp [he])
        · have h0 : i = H.length := by
            have := (List.getElem?_eq_some_iff.1 hx).1
            simp at this
            omega
          subst h0
          simp only [updT, if_true]
          have := hp1 e he
          simp only at this
          omega)
      (fun q hq hne => by
        by_cases hqj : q = j
        · subst hqj
          rw [List.getD_eq_getElem?_getD, List.getElem?_set, if_pos rfl, if_pos (by omega)]
          simp only [Option.getD_some, Rel]
          refine ⟨n, ?_, h1⟩
          rw [List.getElem?_append_right (by omega), hsz, Nat.sub_self]
          rfl
        · rw [List.getD_eq_getElem?_getD, List.getElem?_set, if_neg (fun e => hqj e.symm), ← List.getD_eq_getElem?_getD]
          refine Rel.more ⟨_, rfl⟩ (hV q hq (fun e he => ?_))
          rcases List.mem_cons.1 he with rfl | he
          · exact fun e => hqj e.symm
          · exact hne e he)
    exact ⟨τ', β', ⟨[.pointer (some ⟨n, 0, none⟩)] ++ s, by rw [e0, List.append_assoc]⟩, e1, e2⟩
theorem draw_sound {l : List Oper} {m id : Nat} {V : List AV} {S : List Bool} {Q : Exit → Act → World → Prop} (hm : P.follows .mixedOrders = true) (hB : regionOk l m = true) (hml : m ≤ l.length) (hVl : V.length = m)
    (hC : Conc E σ τ β ⟨tm, H⟩ a w) (hF : ∀ q, q < m → ∀ o, l[q]? = some o → Fact P l (masks l []) tm H V S q o) (hskip : ∀ q, q < m → S.getD q false = true → V.getD q .unk = .val undef) (hal : ∀ q, q < m → ∀ o, l[q]? = some o → allocX P o ≠ none → S.getD q false = false ∧ V.getD q .unk = .unk)
    (hQ : ∀ σ' τ' β' a' w', (∃ s, β' = β ++ s) → EvT (Rng E) σ w σ' w' → Conc E σ' τ' β' ⟨maskT (setA (allocL P 0 m l) V H).1 (2 ^ m - 1) m 0 l tm, (setA (allocL P 0 m l) V H).2⟩ a' w' → wpList P l.toArray Q (l.drop m) a' w') : (Code.region id l.toArray true).wp P Q a w := by
  have ha : a = ⟨a.tmps, []⟩ := by
    have := hC.defers
    cases a; simp_all
  rw [ha]
  have hsz := hC.size
  simp only at hsz
  obtain ⟨r, hr1, hr2⟩ := Gh.fresh τ E.bnd H.length
  let E1 : Env := ⟨E.Pr, fun t => E.Kp t ∨ (r ≤ t ∧ t < r + l.length), r + l.length, E.nought, fun t h => .inl (E.sub t h), fun t h => by
    rcases h with h | h
    · have := E.low t h; omega
    · omega⟩
  have hE1 : ∀ t, E.Pr t → E1.Pr t := fun t h => h
  have hE1' : ∀ t, E1.Pr t → E.Pr t := fun t h => h
  have hRng : ∀ t, Rng E1 t → Rng E t := fun t h h' => h (.inl h')
  have hevd : EvT (fun _ => False) σ w σ { w with drawn := w.drawn + 1 } := EvT.of (ev_drew σ w 1 1 _) (fun t h1 h2 => by omega)
  have hP : ∀ t, E.Pr t → ¬ Rng E t := fun t ht h => h (E.sub t ht)
  have hP1 : ∀ t, E1.Pr t → ¬ Rng E1 t := fun t ht h => h (E1.sub t ht)
  have c1 : Conc E1 σ τ β ⟨tm, H⟩ a { w with drawn := w.drawn + 1 } := by
    refine ⟨hC.defers, RelL.env hE1 (RelL.ev hevd (fun _ _ h => h) hC.tmps), hC.size, fun i x v hx hv => BRel.env hE1 (BRel.ev (hC.heap i x v hx hv) hevd (fun _ _ h => h) (fun _ h => h)), fun i x hx hl h => ?_, hC.inj⟩
    rcases h with h | h
    · exact hC.apart i x hx hl h
    · have := hr2 i (List.getElem?_eq_some_iff.1 hx).1
      omega
  let isA : Nat → Option (TypeId × Value) := fun q => (l[q]?).bind (allocX P)
  have rels : ∀ {σ1 : Gh} {w1 : World} {vs : Nat → Value} {T : Nat → Bool}, (∀ j, T j = true → (detOf S).getD j none = none → match isA j with
        | some p => ∃ n, vs j = .pointer (some ⟨n, 0, none⟩) ∧ Blk σ1 (r + j) w1 n p.1 p.2.cells
        | none => Rel E1 σ1 w1 β (V.getD j .unk) (vs j)) → ∀ q, T q = true → q < m →
      Rel E1 σ1 w1 β (V.getD q .unk) (((detOf S).getD q none).getD (vs q)) := by
    intro σ1 w1 vs T hV q hT hq
    rw [detOf_get]
    cases hs : S.getD q false with
    | true =>
      have := hskip q hq hs
      rw [this]; simp [Rel]
    | false =>
      have h1 := hV q hT (by rw [detOf_get, hs])
      cases hA : isA q with
      | none => rw [hA] at h1; exact h1
      | some p =>
        obtain ⟨o, ho, hp⟩ := Option.bind_eq_some_iff.1 hA
        have := (hal q hq o ho (by rw [hp]; simp)).2
        rw [this]; simp [Rel]
  refine wp_region_order hm m hB hml (detOf S) (fun j v σ' w' => match isA j with
        | some p => ∃ n, v = .pointer (some ⟨n, 0, none⟩) ∧ Blk σ' (r + j) w' n p.1 p.2.cells
        | none => Rel E1 σ' w' β (V.getD j .unk) v) (fun _ σ1 w1 => EvT (Rng E) σ w σ1 w1 ∧ ∃ τ1, Conc E1 σ1 τ1 β ⟨tm, H⟩ a w1) σ ⟨hevd.mono (fun _ h => h.elim), τ, c1⟩ ?_ ?_
  · intro i o him ho T vs σ1 w1 hT hTi ⟨hev, τ1, hC1⟩ hV
    have hmask : Conc E1 σ1 τ1 β ⟨maskT V ((masks l []).getD i 0) i 0 l tm, H⟩ ⟨slotsOf vs (detOf S) (fun q => decide (q < i)) 0 l a.tmps, []⟩ w1 :=
      ⟨rfl, maskT_rel l 0 hC1.tmps (fun q hq hb => rels hV q (hT q hb) (by omega)), hC1.size, hC1.heap, hC1.apart, hC1.inj⟩
    have stay : ∀ {σ' : Gh} {w' : World} {C : Nat → Prop}, EvT C σ1 w1 σ' w' → (∀ t, C t → Rng E1 t) → ∀ j u, (match isA j with
        | some p => ∃ n, u = .pointer (some ⟨n, 0, none⟩) ∧ Blk σ1 (r + j) w1 n p.1 p.2.cells
        | none => Rel E1 σ1 w1 β (V.getD j .unk) u) → (match isA j with
        | some p => ∃ n, u = .pointer (some ⟨n, 0, none⟩) ∧ Blk σ' (r + j) w' n p.1 p.2.cells
        | none => Rel E1 σ' w' β (V.getD j .unk) u) := by
      intro σ' w' C hev' hc j u hu
      cases hA : isA j with
      | none => rw [hA] at hu; exact Rel.ev (hev'.mono hc) hP1 hu
      | some p =>
        rw [hA] at hu
        obtain ⟨n, e1, e2⟩ := hu
        have hjl : j < l.length := by
          obtain ⟨o', ho', _⟩ := Option.bind_eq_some_iff.1 hA
          exact (List.getElem?_eq_some_iff.1 ho').1
        exact ⟨n, e1, blk_evT e2 hev' (fun h => hc _ h (.inr ⟨by omega, by omega⟩))⟩
    have hf := hF i him o ho E1 σ1 τ1 β _ w1 hmask
    have hisA : isA i = allocX P o := by show (l[i]?).bind _ = _; rw [ho]; rfl
    split at hf
    · rename_i hw
      rw [hw]
      exact ⟨by rw [detOf_get, hf.1], hev, τ1, hC1⟩
    · rename_i hw
      rw [hw]
      cases hA : allocX P o with
      | none =>
        refine OpGives.mono (hf.2 hA) ?_
        rintro v σ' w' ⟨τ', β', tmx, ⟨s, rfl⟩, e1, e2, e3⟩
        have hs0 : s = [] := by
          have := e2.size
          simp only [List.length_append] at this
          exact List.eq_nil_of_length_eq_zero (by omega)
        subst hs0
        rw [List.append_nil] at e2 e3
        refine ⟨⟨hev.trans (e1.mono hRng), τ', ⟨hC1.defers, RelL.ev e1 hP1 hC1.tmps, hC1.size, e2.heap, e2.apart, e2.inj⟩⟩, fun j u hTj _ h => ?_, ?_⟩
        · exact stay e1 (fun _ h => h) j u h
        · rw [detOf_get, hf.1, hisA, hA]
          exact e3
      | some p =>
        have hop : o.op = .alloc p.1 ∧ (P.info? p.1).bind (·.zero) = some p.2 := by
          unfold allocX at hA
          split at hA
          · rename_i T ho1 ho2
            split at hA
            · rename_i z hz
              obtain rfl := Option.some.inj hA
              exact ⟨ho1, hz⟩
            · cases hA
          · cases hA
        have hev' : EvT (fun _ => False) σ1 w1 (upd σ1 w1.heap.size (r + i)) { w1 with heap := w1.heap.push (.cells p.2.cells p.1) } := EvT.of (ev_alloc σ1 w1 _ (r + i) 1 1) (fun t h1 h2 => by omega)
        refine OpGives.val (v := .pointer (some ⟨w1.heap.size, 0, none⟩)) (upd σ1 w1.heap.size (r + i)) (w' := { w1 with heap := w1.heap.push (.cells p.2.cells p.1) }) ?_ ⟨⟨hev.trans (hev'.mono (fun _ h => h.elim)), τ1, ?_⟩, fun j u hTj _ h => ?_, ?_⟩
        · obtain ⟨it, hi, hzz⟩ := Option.bind_eq_some_iff.1 hop.2
          simp [execOp, hop.1, Instr.alloc, zeroValue, typeInfo, hi, hzz, newVar, newRow, newObj, Sem.run]
        · exact ⟨hC1.defers, RelL.ev hev' (fun _ _ h => h) hC1.tmps, hC1.size, fun i x v hx hv => BRel.ev (hC1.heap i x v hx hv) hev' (fun _ _ h => h) (fun _ h => h), hC1.apart, hC1.inj⟩
        · exact stay hev' (fun _ h => h.elim) j u h
        · rw [detOf_get, hf.1, hisA, hA]
          exact ⟨_, rfl, blk_alloc σ1 w1 p.2.cells p.1 (r + i)⟩
  · intro vs σ1 w1 ⟨hev, τ1, hC1⟩ hV
    have hC2 : Conc E σ1 τ1 β ⟨tm, H⟩ a w1 := ⟨hC1.defers, RelL.env hE1' hC1.tmps, hC1.size, fun i x v hx hv => BRel.env hE1' (hC1.heap i x v hx hv), fun i x hx hl h => hC1.apart i x hx hl (.inl h), hC1.inj⟩
    have hrel := fun q hq => rels (T := fun q => decide (q < m)) (fun j hj => hV j (by simpa using hj)) q (by simpa using hq) hq
    obtain ⟨τ', β', e0, e1, e2⟩ := setA_sound (r := r) (m := m) (vs := fun q => ((detOf S).getD q none).getD (vs q)) (allocL P 0 m l) hC2 hVl (fun e he => by have := (allocL_ge he).2.1; omega) allocL_pw hr1
      (fun e he => by
        obtain ⟨g1, g2, o, g3, g4⟩ := allocL_ge he
        rw [Nat.sub_zero] at g3
        have g5 := hal e.1 (by omega) o g3 (by rw [g4]; simp)
        have g6 := hV e.1 (by omega) (by rw [detOf_get, g5.1])
        have hisA : isA e.1 = some e.2 := by show (l[e.1]?).bind _ = _; rw [g3]; exact g4
        rw [hisA] at g6
        simp only [detOf_get, g5.1, Option.getD_none]
        exact g6)
      (fun i x hx hl e he h => hC1.apart i x hx hl (.inr ⟨by rw [h]; omega, by rw [h]; have := (allocL_ge he).2.1; have := Nat.lt_of_lt_of_le this (show 0 + m ≤ l.length by omega); omega⟩))
      (fun q hq _ => Rel.env hE1' (hrel q hq))
    refine hQ σ1 τ' β' _ w1 e0 hev ⟨rfl, maskT_rel l 0 e1.tmps (fun q hq _ => e2 q hq), e1.size, e1.heap, e1.apart, e1.inj⟩

theorem maskT_pres {ops : List Oper} {V : List AV} {s m : Nat} : ∀ (l : List Oper) (k : Nat) (t : List AV), TPres (dsts ops l) t (maskT V s m k l t)
  | [], k, t => .refl
  | o :: l, k, t => by
    rw [maskT]
    refine TPres.trans ?_ ((maskT_pres l (k + 1) _).mono (fun t ht => dsts_mem (.inr ht)))
    cases Nat.blt k m with
    | false => exact .refl
    | true =>
      cases hd : o.dst with
      | none => exact .refl
      | some d => exact TPres.put (d := some d) (fun t ht => dsts_mem (.inl (by rw [hd]; exact ht)))
theorem dsts_drop {ops : List Oper} {t : Tmp} : ∀ (l : List Oper) (m : Nat), t ∈ dsts ops (l.drop m) → t ∈ dsts ops l
  | l, 0, h => h
  | [], m + 1, h => by simpa using h
  | o :: l, m + 1, h => dsts_mem (.inr (dsts_drop l m (by simpa using h)))
/-- A region that draws its order. -/
def regD (P : Program) (hs : List (Hnd P)) (l : List Oper) (X : Type) (tm : List AV) (H : List AB) (k : List AV → List AB → Option X) : Option X :=
  match regionOk l (mOf (masks l []) l.length), P.follows .mixedOrders, Nat.ble (mOf (masks l []) l.length) l.length with
  | true, true, true => drawX P hs l (masks l []) tm H X 0 l (mOf (masks l []) l.length) [] [] fun V S =>
      regX P hs l X (l.drop (mOf (masks l []) l.length)) (maskT (setA (allocL P 0 (mOf (masks l []) l.length) l) V H).1 (2 ^ (mOf (masks l []) l.length) - 1) (mOf (masks l []) l.length) 0 l tm) (setA (allocL P 0 (mOf (masks l []) l.length) l) V H).2 k
  | _, _, _ => none
theorem regD_sound {l : List Oper} {id : Nat} {Q : Exit → Act → World → Prop} {k : List AV → List AB → Option X} (h : regD P hs l X tm H k = some x) (hC : Conc E σ τ β ⟨tm, H⟩ a w)
    (hQ : ∀ tm' H' σ' τ' β' a' w', k tm' H' = some x → Went E (dsts l l) σ β w tm H σ' β' w' tm' H' → Conc E σ' τ' β' ⟨tm', H'⟩ a' w' → Q .normal a' w') : (Code.region id l.toArray true).wp P Q a w := by
  unfold regD at h
  split at h
  · rename_i hB hm hle
    obtain ⟨V, S, h1, _, _, hVl, _, h2, h3, h4⟩ := drawX_sound _ 0 l h rfl rfl rfl
    refine draw_sound hm hB (Nat.le_of_ble_eq_true hle) (by omega) hC (fun q hq o ho => h2 q (by omega) (by omega) o ho) (fun q hq => h3 q (by omega) (by omega)) (fun q hq => h4 q (by omega) (by omega)) (fun σ' τ' β' a' w' hmore hev hC' => ?_)
    exact regX_sound _ h1 hC' (fun tm' H' σ'' τ'' β'' a'' w'' hk hW hC'' => hQ _ _ _ _ _ _ _ hk (Went.trans ⟨hev, hmore, setA_pres _ _ _, maskT_pres l 0 tm⟩ (hW.mono (fun t ht => dsts_drop l _ ht))) hC'')
  · cases h
end
end Go.Am
