/- The abstract machine, part 13: a region that draws its order. No statement of its own. -/
import Derived.Test.YtfhcockdlfidmaaAm7
import Derived.Test.YtfhcockdlfidmaaVk8
namespace Go.Am
open Go.Vk Go.RowKit
set_option linter.unusedVariables false
set_option linter.unusedSimpArgs false
variable [Dr]

/-- A frame, as far as an operation of mask s may look: the values of the first i operations. -/
def maskT (vals : List AV) (s i : Nat) : Nat → List Oper → List AV → List AV
  | _, [], t => t
  | k, o :: l, t => maskT vals s i (k + 1) l (match Nat.blt k i, o.dst with
    | true, some d => t.set d (match s.testBit k with
      | true => vals.getD k .unk
      | false => .unk)
    | _, _ => t)
/-- A slice that is written out, and stays as it is. -/
def svX (P : Program) (tm : List AV) (t : TypeId) (n : Nat) (parts : List (Nat × Operand)) : Option AV :=
  match P.underlying t with
  | some (.slice e) => match P.info? e, tyOf P 20 e with
    | some ie, some T => match ie.zero, Nat.ble (n * ie.size) 65536, Nat.beq (n * ie.size) 0, Nat.ble n 65536 with
      | some z, true, false, true => match partsX tm parts with
        | some ps => match fillA (fun i => some (i * ie.size, ie.size)) (((Array.range (n * ie.size)).map (z.cells[· % z.cells.size]!)).toList.map .val) ps with
          | some cs => match decN T n cs with
            | some (xs, []) => some (.sv true T xs)
            | _ => none
          | none => none
        | none => none
      | _, _, _, _ => none
    | _, _ => none
  | _ => none
section
variable {P : Program} {E : Env} {σ : Gh} {τ : Nat → Nat} {w : World} {β : List Value} {tm : List AV} {H : List AB} {a : Act} {o : Oper}
theorem Conc.grown {C : Nat → Prop} {σ' : Gh} {w' : World} (hC : Conc E σ τ β ⟨tm, H⟩ a w) (hev : EvT C σ w σ' w') (hc : ∀ t, ¬ C t) : Conc E σ' τ β ⟨tm, H⟩ a w' :=
  ⟨hC.defers, RelL.ev hev (fun _ _ => hc _) hC.tmps, hC.size, fun i x v hx hv => BRel.ev (hC.heap i x v hx hv) hev (fun _ _ => hc _) (fun _ => hc _), hC.apart, hC.inj⟩
theorem svX_sound {t : TypeId} {n : Nat} {parts : Array (Nat × Operand)} {v : AV} (hC : Conc E σ τ β ⟨tm, H⟩ a w) (ho : o.op = .buildSlice t n parts) (h : svX P tm t n parts.toList = some v) : OpOut P E σ β tm a w o H v := by
  unfold svX at h
  split at h
  · rename_i e hu
    split at h
    · rename_i ie T hie hT
      split at h
      · rename_i z hz hle hne hn
        split at h
        · rename_i ps hps
          split at h
          · rename_i cs hf
            split at h
            · rename_i xs hd
              simp only [Option.some.injEq] at h
              subst h
              have hle := Nat.le_of_ble_eq_true hle
              have hn := Nat.le_of_ble_eq_true hn
              have hne := Nat.ne_of_beq_eq_false hne
              obtain ⟨rs, e1, e2⟩ := fillA_rel (partsX_rel hC hps) (relL_vals (E := E) (σ := σ) (w := w) (β := β) ((Array.range (n * ie.size)).map (z.cells[· % z.cells.size]!)).toList) hf
              obtain ⟨c, d, e3, e4, e5, e6⟩ := decN_rel hd e2
              simp only [RelL] at e6
              subst e6
              rw [List.append_nil] at e3
              have hrun := run_buildSlice (P := P) w t e n (parts.map fun (i, x) => (i, a.eval x)) rs ie z hu hie hz (by omega) hne (by rw [Array.toList_map]; exact e1)
              have hev1 : Ev 1 1 σ w (upd σ w.heap.size 0) { w with heap := w.heap.push (.cells rs e) } := ev_alloc σ w _ _ 1 1
              have hev : EvT (fun _ => False) σ w (upd σ w.heap.size 0) { w with heap := w.heap.push (.cells rs e) } := EvT.of hev1 (fun t h1 h2 => by omega)
              have hown := own_blk (blk_alloc σ w rs e 0) e5 (by omega) (by rw [e3]; exact e4.ev hev1 (Nat.le_refl 1))
              obtain ⟨A, c', g1, g2, _, g3⟩ := hown.rd
              refine OpGives.val (v := .slice (some ⟨w.heap.size, 0, none⟩) n n) (w' := { w with heap := w.heap.push (.cells rs e) }) _ ?_ ⟨τ, β, ⟨[], by simp⟩, hev.mono (fun t h => h.elim), hC.grown hev (fun _ h => h), ?_⟩
              · simp only [execOp, ho, Sem.run_bind, hrun, Result.andThen_ok, World.alloc, Sem.run_pure]
              · simp only [Rel]
                exact ⟨A, c', 0, g1, g2, E.nought, fun _ => rfl, g3⟩
            all_goals cases h
          all_goals cases h
        all_goals cases h
      all_goals cases h
    all_goals cases h
  all_goals cases h
end
/-- An operation that leaves what is there. -/
def opV (P : Program) (hs : List (Hnd P)) (tm : List AV) (H : List AB) (o : Oper) (X : Type) (k : AV → Option X) : Option X :=
  match o.op with
  | .move x => k (aeval tm x)
  | .assign x => k (aeval tm x)
  | .pick c x y => match pickX (aeval tm c) (aeval tm x) (aeval tm y) with
    | some v => k v
    | none => none
  | .load t x => match loadX P H t (aeval tm x) with
    | some v => k v
    | none => none
  | .build t ps => match buildX P tm t ps.toList with
    | some v => k v
    | none => none
  | .extract x i => match extractX (aeval tm x) i with
    | some v => k v
    | none => match pureX P o (aeval tm) with
      | some v => k (.val v)
      | none => none
  | .fieldAddr t x f => match fieldX P t f (aeval tm x) with
    | some v => k v
    | none => none
  | .indexAddr t x i => match indexX P H t (aeval tm x) (aeval tm i) with
    | some (c, v) => bifA c (k v) none
    | none => none
  | .slice t x lo hi none => match cutX P tm t (aeval tm x) lo hi with
    | some (c, v) => bifA c (k v) none
    | none => match cutS P tm t (aeval tm x) lo hi with
      | some (c, v) => bifA c (k v) none
      | none => none
  | .call ⟨.builtin .len, ⟨[x]⟩, ⟨[t]⟩⟩ => match lenX P H t (aeval tm x) with
    | some v => k v
    | none => match mlenX P H t (aeval tm x) with
      | some v => k v
      | none => match pureX P o (aeval tm) with
        | some v => k (.val v)
        | none => none
  | .call ⟨.value (.func f), args, _⟩ => match findH f hs with
    | some h => match h.v with
      | some g => g X (args.toList.map (aeval tm)) H k
      | none => none
    | none => match pureX P o (aeval tm) with
      | some v => k (.val v)
      | none => none
  | .call ⟨.value (.tmp t), args, _⟩ => match cloX (aeval tm (.tmp t)) with
    | some (f, fs, cs) => match findH f hs with
      | some h => match h.v with
        | some g => g X (fs ++ args.toList.map (aeval tm) ++ cs) H k
        | none => none
      | none => none
    | none => none
  | .makeFunc fn first caps => k (.clo fn (first.toList.map (aeval tm)) (caps.toList.map (aeval tm)))
  | .index .. => match indexV P o (aeval tm) with
    | some (c, v) => bifA c (k (.val v)) none
    | none => match pureX P o (aeval tm) with
      | some v => k (.val v)
      | none => none
  | .buildSlice t n ps => match svX P tm t n ps.toList with
    | some v => k v
    | none => none
  | .binOp .. => match divX o (aeval tm) with
    | some (c, v) => bifA c (k (.val v)) none
    | none => match eqX P o (aeval tm) with
      | some v => k (.val v)
      | none => match nilX P o (aeval tm) with
        | some v => k (.val v)
        | none => match pureX P o (aeval tm) with
          | some v => k (.val v)
          | none => none
  | .lookup t x y ok => match lookupX P H t (aeval tm x) (aeval tm y) ok with
    | some v => k v
    | none => none
  | .convert src dst x => match b2sX P H src dst (aeval tm x) with
    | some v => k v
    | none => match pureX P o (aeval tm) with
      | some v => k (.val v)
      | none => none
  | .field t x f => match fieldV P t (aeval tm x) f with
    | some v => k v
    | none => match pureX P o (aeval tm) with
      | some v => k (.val v)
      | none => none
  | _ => match pureX P o (aeval tm) with
    | some v => k (.val v)
    | none => none
theorem pureV_out {P : Program} {tm : List AV} {H : List AB} {o : Oper} {X : Type} {k : AV → Option X} {x : X} (h : (match pureX P o (aeval tm) with | some v => k (.val v) | none => none) = some x) : ∃ av, k av = some x ∧ OpSem P tm H o H av := by
  split at h
  · rename_i v hv
    exact ⟨_, h, fun E σ τ β a w hC => pureX_sound hC hv⟩
  · cases h
theorem opV_sound {P : Program} {hs : List (Hnd P)} {tm : List AV} {H : List AB} {o : Oper} {X : Type} {k : AV → Option X} {x : X} (h : opV P hs tm H o X k = some x) : ∃ av, k av = some x ∧ OpSem P tm H o H av := by
  unfold opV at h
  split at h
  · rename_i y ho; exact ⟨_, h, fun E σ τ β a w hC => move_sound hC (.inl ho)⟩
  · rename_i y ho; exact ⟨_, h, fun E σ τ β a w hC => move_sound hC (.inr ho)⟩
  · rename_i c y z ho
    split at h
    · rename_i v hv; exact ⟨_, h, fun E σ τ β a w hC => pick_sound hC ho hv⟩
    · cases h
  · rename_i T y ho
    split at h
    · rename_i v hv; exact ⟨_, h, fun E σ τ β a w hC => load_sound hC ho hv⟩
    · cases h
  · rename_i T ps ho
    split at h
    · rename_i v hv; exact ⟨_, h, fun E σ τ β a w hC => build_sound hC ho hv⟩
    · cases h
  · rename_i y i ho
    split at h
    · rename_i v hv; exact ⟨_, h, fun E σ τ β a w hC => extract_sound hC ho hv⟩
    · exact pureV_out h
  · rename_i T y f ho
    split at h
    · rename_i v hv; exact ⟨_, h, fun E σ τ β a w hC => fieldAddr_sound hC ho hv⟩
    · cases h
  · rename_i T y i ho
    split at h
    · rename_i c v hv
      obtain ⟨rfl, h⟩ := bif_some h
      exact ⟨_, h, fun E σ τ β a w hC => index_sound hC ho hv⟩
    · cases h
  · rename_i T y lo hi ho
    split at h
    · rename_i c v hv
      obtain ⟨rfl, h⟩ := bif_some h
      exact ⟨_, h, fun E σ τ β a w hC => cut_sound hC ho hv⟩
    · split at h
      · rename_i c v hv
        obtain ⟨rfl, h⟩ := bif_some h
        exact ⟨_, h, fun E σ τ β a w hC => cutS_sound hC ho hv⟩
      · cases h
  · rename_i y t ho
    split at h
    · rename_i v hv; exact ⟨_, h, fun E σ τ β a w hC => len_sound hC ho hv⟩
    · split at h
      · rename_i v hv; exact ⟨_, h, fun E σ τ β a w hC => mlen_sound hC ho hv⟩
      · exact pureV_out h
  · rename_i f args tys ho
    split at h
    · rename_i hd hf
      split at h
      · rename_i g hg
        obtain ⟨av, h1, h2⟩ := hd.vok g hg X _ H k x h
        refine ⟨av, h1, fun E σ τ β a w hC => ?_⟩
        have hff := findH_f hf
        have hc := h2 E σ τ β tm a w _ hC (args_rel hC args.toList)
        have hrun : (execOp a.eval o).run P w = .ok (.enter f (args.toList.map a.eval).toArray) w := by
          have := hd.ent (args.toList.map a.eval).toArray w
          rw [hff] at this
          have ha : args.map a.eval = (args.toList.map a.eval).toArray := by rw [← Array.toList_map]
          simp only [execOp, ho, resolve, Act.eval, Deferred.ofValue, Sem.run_bind, Sem.run_pure, Result.andThen_ok, invoke, ha]
          simpa using this
        unfold OpOut OpGives
        rw [hrun]
        rw [hff] at hc
        exact hc
      · cases h
    · exact pureV_out h
  · rename_i t args tys ho
    split at h
    · rename_i f fs cs hclo
      split at h
      · rename_i hd hf
        split at h
        · rename_i g hg
          obtain ⟨av, h1, h2⟩ := hd.vok g hg X _ H k x h
          refine ⟨av, h1, fun E σ τ β a w hC => ?_⟩
          have hff := findH_f hf
          obtain ⟨vs, us, g1, g2, g3⟩ : ∃ vs us, a.eval (.tmp t) = .func (.func f) (List.toArray vs) (List.toArray us) ∧ RelL E σ w β fs vs ∧ RelL E σ w β cs us := by
            have hx := aeval_rel hC (.tmp t)
            unfold cloX at hclo
            split at hclo
            · rename_i f' fs' cs' he
              simp only [Option.some.injEq, Prod.mk.injEq] at hclo
              obtain ⟨rfl, rfl, rfl⟩ := hclo
              have hx : Rel E σ w β (.clo (.func f') fs' cs') (a.eval (.tmp t)) := he ▸ hx
              simp only [Rel] at hx
              exact hx
            · rename_i f' fs' cs' he
              simp only [Option.some.injEq, Prod.mk.injEq] at hclo
              obtain ⟨rfl, rfl, rfl⟩ := hclo
              have hx : Rel E σ w β (.val (.func (.func f') fs' cs')) (a.eval (.tmp t)) := he ▸ hx
              simp only [Rel] at hx
              exact ⟨fs'.toList, cs'.toList, by simpa using hx, relL_vals _, relL_vals _⟩
            · cases hclo
          have hc := h2 E σ τ β tm a w _ hC (RelL.append (RelL.append g2 (args_rel hC args.toList)) g3)
          have hrun : (execOp a.eval o).run P w = .ok (.enter f (vs ++ args.toList.map a.eval ++ us).toArray) w := by
            have := hd.ent (vs ++ args.toList.map a.eval ++ us).toArray w
            rw [hff] at this
            have ha : vs.toArray ++ args.map a.eval ++ us.toArray = (vs ++ args.toList.map a.eval ++ us).toArray := by
              rw [← List.append_toArray, ← List.append_toArray, ← Array.toList_map]
            simp only [execOp, ho, resolve, g1, Deferred.ofValue, Sem.run_bind, Sem.run_pure, Result.andThen_ok, invoke, ha]
            simpa using this
          unfold OpOut OpGives
          rw [hrun]
          rw [hff] at hc
          exact hc
        · cases h
      · cases h
    · cases h
  · rename_i fn first caps ho
    refine ⟨_, h, fun E σ τ β a w hC => OpOut.same hC (v := .func fn (first.map a.eval) (caps.map a.eval)) (by simp [execOp, ho, Instr.makeFunc]) ?_⟩
    simp only [Rel]
    exact ⟨first.toList.map a.eval, caps.toList.map a.eval, by rw [← Array.toList_map, ← Array.toList_map], args_rel hC _, args_rel hC _⟩
  · split at h
    · rename_i c v hv
      obtain ⟨rfl, h⟩ := bif_some h
      exact ⟨_, h, fun E σ τ β a w hC => indexV_sound hC hv⟩
    · exact pureV_out h
  · rename_i t n ps ho
    split at h
    · rename_i v hv; exact ⟨_, h, fun E σ τ β a w hC => svX_sound hC ho hv⟩
    · cases h
  · split at h
    · rename_i c v hv
      obtain ⟨rfl, h⟩ := bif_some h
      exact ⟨_, h, fun E σ τ β a w hC => divX_sound hC hv⟩
    · split at h
      · rename_i v hv; exact ⟨_, h, fun E σ τ β a w hC => eqX_sound hC hv⟩
      · split at h
        · rename_i v hv; exact ⟨_, h, fun E σ τ β a w hC => nilX_sound hC hv⟩
        · exact pureV_out h
  · rename_i t y z ok ho
    split at h
    · rename_i v hv; exact ⟨_, h, fun E σ τ β a w hC => lookup_sound hC ho hv⟩
    · cases h
  · rename_i src dst y ho
    split at h
    · rename_i v hv; exact ⟨_, h, fun E σ τ β a w hC => b2s_sound hC ho hv⟩
    · exact pureV_out h
  · rename_i t y f ho
    split at h
    · rename_i v hv; exact ⟨_, h, fun E σ τ β a w hC => fieldV_sound hC ho hv⟩
    · exact pureV_out h
  · exact pureV_out h

/-- no operation but j sets slot d -/
def onceX (d j : Nat) : Nat → List Oper → Bool
  | _, [] => true
  | k, o :: r => (Nat.beq k j || (match o.dst with
    | some d' => !(Nat.beq d' d)
    | none => true)) && onceX d j (k + 1) r
def onceB (l : List Oper) (tm : List AV) (s i j : Nat) : Bool :=
  match (l[j]?).bind (·.dst) with
  | some d => (Nat.blt d tm.length && Nat.blt j i) && (s.testBit j && onceX d j 0 l)
  | none => false
omit [Dr] in
theorem maskT_keep {vals : List AV} {s i d j : Nat} : ∀ (l : List Oper) (k : Nat) (t : List AV), onceX d j k l = true → j < k → (maskT vals s i k l t)[d]? = t[d]?
  | [], k, t, _, _ => rfl
  | o :: r, k, t, h, hj => by
    simp only [onceX, Bool.and_eq_true, Bool.or_eq_true] at h
    rw [maskT, maskT_keep r (k + 1) _ h.2 (by omega)]
    have h1 : (match o.dst with | some d' => !(Nat.beq d' d) | none => true) = true := by
      rcases h.1 with h1 | h1
      · have := Nat.eq_of_beq_eq_true h1; omega
      · exact h1
    cases hb : Nat.blt k i with
    | false => rfl
    | true =>
      cases hd : o.dst with
      | none => rfl
      | some d' =>
        rw [hd] at h1
        have h2 : Nat.beq d' d = false := by simpa using h1
        have h3 : d' ≠ d := fun e => by rw [e] at h2; simp at h2
        simp only [List.getElem?_set]
        rw [if_neg h3]
omit [Dr] in
theorem maskT_at {vals : List AV} {s i d j : Nat} (hji : j < i) (hs : s.testBit j = true) : ∀ (l : List Oper) (k : Nat) (t : List AV), onceX d j k l = true → k ≤ j → (l[j - k]?).bind (·.dst) = some d → d < t.length → (maskT vals s i k l t)[d]? = some (vals.getD j .unk)
  | [], k, t, _, _, h, _ => by simp at h
  | o :: r, k, t, h, hk, hd, hl => by
    simp only [onceX, Bool.and_eq_true, Bool.or_eq_true] at h
    rw [maskT]
    rcases Nat.eq_or_lt_of_le hk with he | hlt
    · subst he
      rw [maskT_keep r (k + 1) _ h.2 (by omega)]
      rw [Nat.sub_self] at hd
      have hd : o.dst = some d := by simpa using hd
      have hb : Nat.blt k i = true := Nat.ble_eq_true_of_le hji
      rw [hd, hb, hs]
      simp [List.getElem?_set, hl]
    · refine maskT_at hji hs r (k + 1) _ h.2 (by omega) ?_ ?_
      · rw [show j - k = (j - (k + 1)) + 1 by omega, List.getElem?_cons_succ] at hd
        exact hd
      · split
        · simpa using hl
        · exact hl
omit [Dr] in
theorem onceB_guard {l : List Oper} {tm vals : List AV} {s i j : Nat} {c : Bool} (h : onceB l tm s i j = true) (hv : vals[j]? = some (.val (.bool c))) : ∃ d, guardX l (maskT vals s i 0 l tm) j = some (d, c) := by
  unfold onceB at h
  split at h
  · rename_i d hd
    simp only [Bool.and_eq_true] at h
    obtain ⟨⟨h1, h2⟩, h3, h4⟩ := h
    have := maskT_at (vals := vals) (Nat.le_of_ble_eq_true h2) h3 l 0 tm h4 (Nat.zero_le _) (by simpa using hd) (Nat.le_of_ble_eq_true h1)
    refine ⟨d, ?_⟩
    unfold guardX
    rw [hd]
    simp only [this, List.getD_eq_getElem?_getD, hv, Option.getD_some]
  · cases h
/-- A new variable, which nobody looks at ahead of the tail. -/
def allocX (P : Program) (o : Oper) : Option (TypeId × Value) :=
  match o.op, o.guard with
  | .alloc T, none => match (P.info? T).bind (·.zero) with
    | some z => some (T, z)
    | none => none
  | _, _ => none
def allocL (P : Program) : Nat → Nat → List Oper → List (Nat × TypeId × Value)
  | _, 0, _ => []
  | _, _ + 1, [] => []
  | k, n + 1, o :: r => match allocX P o with
    | some p => (k, p) :: allocL P (k + 1) n r
    | none => allocL P (k + 1) n r
def setA : List (Nat × TypeId × Value) → List AV → List AB → List AV × List AB
  | [], V, H => (V, H)
  | (j, T, z) :: l, V, H => setA l (V.set j (.ptr H.length 0)) (H ++ [.cells T (z.cells.toList.map .val)])
section
variable {P : Program} {E : Env} {σ σ1 : Gh} {τ : Nat → Nat} {w w1 : World} {β : List Value} {tm : List AV} {H : List AB} {a : Act} {X : Type} {x : X} {hs : List (Hnd P)}
theorem maskT_rel {vals : List AV} {s i : Nat} {vs : Nat → Value} {det : List (Option Value)} : ∀ (l : List Oper) (k : Nat) {t : List AV} {T : Array Value}, RelL E σ w β t T.toList →
    (∀ q, q < i → s.testBit q = true → Rel E σ w β (vals.getD q .unk) ((det.getD q none).getD (vs q))) → RelL E σ w β (maskT vals s i k l t) (slotsOf vs det (fun q => decide (q < i)) k l T).toList
  | [], k, t, T, h, _ => h
  | o :: l, k, t, T, h, hv => by
    rw [maskT, slotsOf]
    refine maskT_rel l (k + 1) ?_ hv
    cases hb : Nat.blt k i with
    | false =>
      have hk : decide (k < i) = false := by
        rw [decide_eq_false_iff_not]
        intro hlt
        have : Nat.blt k i = true := Nat.ble_eq_true_of_le hlt
        rw [hb] at this; cases this
      simp only [hk]
      exact h
    | true =>
      have hlt : k < i := Nat.le_of_ble_eq_true hb
      have hk : decide (k < i) = true := by simpa using hlt
      cases hd : o.dst with
      | none => simp only [hk]; exact h
      | some d =>
        simp only [hk]
        rw [Array.toList_setIfInBounds]
        refine RelL.set h d ?_
        cases hs : s.testBit k with
        | true => exact hv k hlt hs
        | false => simp [Rel]
/-- All operations from m on lie behind all that are ahead of them. -/
def fullB (s : Nat) : Nat → Bool
  | 0 => true
  | i + 1 => s.testBit i && fullB s i
def mOf (ms : List Nat) : Nat → Nat
  | 0 => 0
  | n + 1 => match fullB (ms.getD n 0) n with
    | true => mOf ms n
    | false => n + 1
theorem BRel.env {E' : Env} {t : Nat} {v : Value} {x : AB} (hE : ∀ t, E.Pr t → E'.Pr t) (h : BRel E σ w β t v x) : BRel E' σ w β t v x := by
  induction x with
  | cells T cs =>
    obtain ⟨n, vs, h1, h2, h3⟩ := h
    exact ⟨n, vs, h1, h2, RelL.env hE h3⟩
  | row T et xs => exact h
  | map m xs => exact h
  | gone => trivial
  | lock x ih => exact ih h
omit [Dr] in
theorem allocL_ge : ∀ {k n : Nat} {l : List Oper} {e : Nat × TypeId × Value}, e ∈ allocL P k n l → k ≤ e.1 ∧ e.1 < k + n ∧ ∃ o, l[e.1 - k]? = some o ∧ allocX P o = some e.2
  | _, 0, _, e, h => by simp [allocL] at h
  | _, _ + 1, [], e, h => by simp [allocL] at h
  | k, n + 1, o :: r, e, h => by
    have hrec : e ∈ allocL P (k + 1) n r → k ≤ e.1 ∧ e.1 < k + (n + 1) ∧ ∃ o', (o :: r)[e.1 - k]? = some o' ∧ allocX P o' = some e.2 := fun h => by
      obtain ⟨h1, h2, o', h3, h4⟩ := allocL_ge h
      exact ⟨by omega, by omega, o', by rw [show e.1 - k = (e.1 - (k + 1)) + 1 by omega]; exact h3, h4⟩
    simp only [allocL] at h
    split at h
    · rename_i p hp
      rcases List.mem_cons.1 h with rfl | h
      · exact ⟨Nat.le_refl _, by simp, o, by simp, hp⟩
      · exact hrec h
    · exact hrec h
omit [Dr] in
theorem allocL_pw : ∀ {k n : Nat} {l : List Oper}, (allocL P k n l).Pairwise (fun a b => a.1 < b.1)
  | _, 0, _ => by simp [allocL]
  | _, _ + 1, [] => by simp [allocL]
  | k, n + 1, o :: r => by
    simp only [allocL]
    split
    · exact List.pairwise_cons.2 ⟨fun e he => by have := (allocL_ge he).1; simp only; omega, allocL_pw⟩
    · exact allocL_pw
omit [Dr] in
theorem allocL_mem : ∀ {k n : Nat} {l : List Oper} {q : Nat} {o : Oper} {p : TypeId × Value}, q < n → l[q]? = some o → allocX P o = some p → (k + q, p) ∈ allocL P k n l
  | _, 0, _, q, o, p, hq, _, _ => by omega
  | _, n + 1, [], q, o, p, _, ho, _ => by simp at ho
  | k, n + 1, x :: r, 0, o, p, _, ho, hp => by
    simp only [List.getElem?_cons_zero, Option.some.injEq] at ho
    subst ho
    simp [allocL, hp]
  | k, n + 1, x :: r, q + 1, o, p, hq, ho, hp => by
    have := allocL_mem (k := k + 1) (n := n) (q := q) (by omega) (by simpa using ho) hp
    rw [show k + (q + 1) = k + 1 + q by omega]
    simp only [allocL]
    split
    · exact List.mem_cons_of_mem _ this
    · exact this
omit [Dr] in
theorem setA_pres : ∀ (L : List (Nat × TypeId × Value)) (V : List AV) (H : List AB), HPres H (setA L V H).2
  | [], V, H => .refl H
  | (j, T, z) :: l, V, H => .trans (.app _ _) (setA_pres l _ _)
/-- The new variables, one by one. -/
theorem setA_sound {r m : Nat} {vs : Nat → Value} : ∀ (L : List (Nat × TypeId × Value)) {τ : Nat → Nat} {β : List Value} {H : List AB} {V : List AV}, Conc E σ τ β ⟨tm, H⟩ a w → V.length = m → (∀ e ∈ L, e.1 < m) → L.Pairwise (fun a b => a.1 < b.1) → E.bnd ≤ r →
    (∀ e ∈ L, ∃ n, vs e.1 = .pointer (some ⟨n, 0, none⟩) ∧ Blk σ (r + e.1) w n e.2.1 e.2.2.cells) → (∀ (i : Nat) (x : AB), H[i]? = some x → x.live = true → ∀ e ∈ L, τ i ≠ r + e.1) →
    (∀ q, q < m → (∀ e ∈ L, e.1 ≠ q) → Rel E σ w β (V.getD q .unk) (vs q)) →
    ∃ τ' β', (∃ s, β' = β ++ s) ∧ Conc E σ τ' β' ⟨tm, (setA L V H).2⟩ a w ∧ ∀ q, q < m → Rel E σ w β' ((setA L V H).1.getD q .unk) (vs q)
  | [], τ, β, H, V, hC, _, _, _, _, _, _, hV => ⟨τ, β, ⟨[], by simp⟩, hC, fun q hq => hV q hq (fun e he => by cases he)⟩
  | (j, T, z) :: l, τ, β, H, V, hC, hm, hlt, hpw, hr, hb, ht, hV => by
    have hsz := hC.size
    simp only at hsz
    obtain ⟨n, h1, h2⟩ := hb (j, T, z) (by simp)
    obtain ⟨hp1, hp2⟩ := List.pairwise_cons.1 hpw
    have hk : ¬ E.Kp (r + j) := fun h => by have := E.low _ h; omega
    have hblk : BRel E σ w (β ++ [.pointer (some ⟨n, 0, none⟩)]) (r + j) (.pointer (some ⟨n, 0, none⟩)) (.cells T (z.cells.toList.map .val)) :=
      ⟨n, z.cells.toList, rfl, by simpa using h2, relL_vals _⟩
    have hN := conc_new (x := .cells T (z.cells.toList.map .val)) hC EvT.refl hk (fun i y hy hl => ht i y hy hl (j, T, z) (by simp)) hblk
    obtain ⟨τ', β', ⟨s, e0⟩, e1, e2⟩ := setA_sound l (V := V.set j (.ptr H.length 0)) hN (by simpa using hm) (fun e he => hlt e (by simp [he])) hp2 hr (fun e he => hb e (by simp [he]))
      (fun i x hx hl e he => by
        rcases Nat.lt_or_ge i H.length with hi | hi
        · rw [List.getElem?_append_left hi] at hx
          simp only [updT, Nat.ne_of_lt hi, if_false]
          exact ht i x hx hl e (by simp [he])
        · have h0 : i = H.length := by
            have := (List.getElem?_eq_some_iff.1 hx).1
            simp at this
            omega
          subst h0
          simp only [updT, if_true]
          have := hp1 e he
          simp only at this
          omega)
      (fun q hq hne => by
        by_cases hqj : q = j
        · subst hqj
          rw [List.getD_eq_getElem?_getD, List.getElem?_set, if_pos rfl, if_pos (by omega)]
          simp only [Option.getD_some, Rel]
          refine ⟨n, ?_, h1⟩
          rw [List.getElem?_append_right (by omega), hsz, Nat.sub_self]
          rfl
        · rw [List.getD_eq_getElem?_getD, List.getElem?_set, if_neg (fun e => hqj e.symm), ← List.getD_eq_getElem?_getD]
          refine Rel.more ⟨_, rfl⟩ (hV q hq (fun e he => ?_))
          rcases List.mem_cons.1 he with rfl | he
          · exact fun e => hqj e.symm
          · exact hne e he)
    exact ⟨τ', β', ⟨[.pointer (some ⟨n, 0, none⟩)] ++ s, by rw [e0, List.append_assoc]⟩, e1, e2⟩
omit [Dr] in
theorem maskT_pres {ops : List Oper} {V : List AV} {s m : Nat} : ∀ (l : List Oper) (k : Nat) (t : List AV), TPres (dsts ops l) t (maskT V s m k l t)
  | [], k, t => .refl
  | o :: l, k, t => by
    rw [maskT]
    refine TPres.trans ?_ ((maskT_pres l (k + 1) _).mono (fun t ht => dsts_mem (.inr ht)))
    cases Nat.blt k m with
    | false => exact .refl
    | true =>
      cases hd : o.dst with
      | none => exact .refl
      | some d => exact TPres.put (d := some d) (fun t ht => dsts_mem (.inl (by rw [hd]; exact ht)))
omit [Dr] in
theorem dsts_drop {ops : List Oper} {t : Tmp} : ∀ (l : List Oper) (m : Nat), t ∈ dsts ops (l.drop m) → t ∈ dsts ops l
  | l, 0, h => h
  | [], m + 1, h => by simpa using h
  | o :: l, m + 1, h => dsts_mem (.inr (dsts_drop l m (by simpa using h)))
end
end Go.Am
