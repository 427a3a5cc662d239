/- The abstract machine, part 4: stores, structs, cuts of slices, rows. No statement of its own. -/
import Derived.Test.YtfhcockdlfidmaaAm3
import Derived.Great.BuildSlice
namespace Go.Am
open Go.Vk Go.RowKit
set_option linter.unusedVariables false
set_option linter.unusedSimpArgs false
variable [Dr]

section
variable {P : Program} {E : Env} {σ σ1 : Gh} {τ : Nat → Nat} {w w1 : World} {β : List Value} {tm : List AV} {H : List AB} {a : Act} {o : Oper}

/-! ### stores -/
def putA (cs : List AV) (i : Nat) : List AV → List AV
  | [] => cs
  | v :: vs => putA (cs.set i v) (i + 1) vs
theorem putA_rel : ∀ {ds : List AV} {us : List Value} (i : Nat) {cs : List AV} {vs : Array Value}, RelL E σ w β cs vs.toList → RelL E σ w β ds us → RelL E σ w β (putA cs i ds) (putCells vs i us).toList
  | [], us, i, cs, vs, h, k => by
    simp only [RelL] at k
    subst k
    exact h
  | d :: ds, us, i, cs, vs, h, k => by
    simp only [RelL] at k
    obtain ⟨v, r, rfl, h2, h3⟩ := k
    simp only [putA, putCells]
    refine putA_rel (i + 1) ?_ h3
    rw [Array.toList_setIfInBounds]
    exact RelL.set h i h2
omit [Dr] in
theorem putCells_size : ∀ (us : List Value) (i : Nat) (vs : Array Value), (putCells vs i us).size = vs.size
  | [], i, vs => rfl
  | u :: us, i, vs => by simp only [putCells]; rw [putCells_size us]; simp

/-- The abstract block i alone is another one. -/
theorem Conc.put {i : Nat} {x y : AB} {v : Value} (hC : Conc E σ τ β ⟨tm, H⟩ a w) (hx : H[i]? = some x) (hl : x.live = true) (hv : β[i]? = some v) (e : EvT (fun t => t = τ i) σ w σ1 w1) (hy : BRel E σ1 w1 β (τ i) v y) : Conc E σ1 τ β ⟨tm, H.set i y⟩ a w1 := by
  have hP : ∀ t, E.Pr t → ¬ t = τ i := fun t ht h => hC.apart i x hx hl (h ▸ E.sub _ ht)
  have cases2 : ∀ (j : Nat) (z : AB), (H.set i y)[j]? = some z → (H[j]? = some z ∧ j ≠ i) ∨ (j = i ∧ z = y) := by
    intro j z hz
    rw [List.getElem?_set] at hz
    by_cases hij : i = j
    · rw [if_pos hij] at hz
      split at hz
      · exact .inr ⟨hij.symm, (Option.some.inj hz).symm⟩
      · cases hz
    · rw [if_neg hij] at hz
      exact .inl ⟨hz, fun h => hij h.symm⟩
  refine ⟨hC.defers, RelL.ev e hP hC.tmps, by rw [hC.size]; simp, fun j z u hz hu => ?_, fun j z hz hk => ?_, fun j k z u hz hu h1 h2 he => ?_⟩
  · rcases cases2 j z hz with ⟨h1, h2⟩ | ⟨rfl, rfl⟩
    · exact BRel.ev (hC.heap j z u h1 hu) e hP (fun hk h => h2 (hC.inj _ _ _ _ h1 hx hk hl h))
    · rw [hv] at hu
      obtain rfl := Option.some.inj hu
      exact hy
  · rcases cases2 j z hz with ⟨h1, h2⟩ | ⟨rfl, rfl⟩
    · exact hC.apart j z h1 hk
    · exact hC.apart _ x hx hl
  · rcases cases2 j z hz with ⟨a1, a2⟩ | ⟨rfl, rfl⟩
    · rcases cases2 k u hu with ⟨b1, b2⟩ | ⟨rfl, rfl⟩
      · exact hC.inj j k z u a1 b1 h1 h2 he
      · exact hC.inj _ _ _ _ a1 hx h1 hl he
    · rcases cases2 k u hu with ⟨b1, b2⟩ | ⟨rfl, rfl⟩
      · exact hC.inj _ _ _ _ hx b1 hl h2 he
      · rfl

def storeX (P : Program) (H : List AB) (t : TypeId) (x v : AV) : Option (List AB) :=
  match x with
  | .ptr b off => match H[b]?, cellsA v with
    | some (.cells T cs), some ds => match (P.info? t).map (fun i => Nat.beq i.size ds.length), Nat.ble (off + ds.length) cs.length with
      | some true, true => some (H.set b (.cells T (putA cs off ds)))
      | _, _ => none
    | _, _ => none
  | _ => none
theorem store_sound {t : TypeId} {x y : Operand} {H' : List AB} (hC : Conc E σ τ β ⟨tm, H⟩ a w) (ho : o.op = .store t x y) (h : storeX P H t (aeval tm x) (aeval tm y) = some H') : OpOut P E σ β tm a w o H' .unk := by
  have hx := aeval_rel hC x
  have hy := aeval_rel hC y
  cases hv : aeval tm x with
  | ptr b off =>
    rw [hv] at h
    have hx : Rel E σ w β (.ptr b off) (a.eval x) := hv ▸ hx
    simp only [storeX] at h
    split at h
    · rename_i T cs ds hb hd
      split at h
      · rename_i hsz hle
        simp only [Option.some.injEq] at h
        subst h
        obtain ⟨ti, hti, hbeq⟩ := Option.map_eq_some_iff.1 hsz
        have hle := Nat.le_of_ble_eq_true hle
        have hbeq := Nat.eq_of_beq_eq_true hbeq
        simp only [Rel] at hx
        obtain ⟨n, h1, h2⟩ := hx
        obtain ⟨n', vs, e1, e2, e3⟩ := hC.heap b _ _ hb h1
        simp only [Value.pointer.injEq, Option.some.injEq, Addr.mk.injEq] at e1
        obtain ⟨rfl, _⟩ := e1
        obtain ⟨d1, d2⟩ := cellsA_rel hy hd
        have l1 := e3.length
        have l2 := d1.length
        obtain ⟨w', r1, r2, r3⟩ := run_storeCells_blk (P := P) off (a.eval y).cells.toList 0 vs.toArray w e2 (by simp only [List.size_toArray]; omega) d2
        have hev : EvT (fun t => t = τ b) σ w σ w' := EvT.of r2 (fun t h1 h2 => by omega)
        have hP : ∀ t, E.Kp t → ¬ t = τ b := fun t ht h => hC.apart b _ hb rfl (h ▸ ht)
        refine OpGives.unit σ ?_ ⟨τ, β, ⟨[], by simp⟩, hev.mono (fun t h hp => hP t hp h), Conc.put hC hb rfl h1 hev ⟨n, (putCells vs.toArray off (a.eval y).cells.toList).toList, rfl, by simpa using r3, ?_⟩, by simp [Rel]⟩
        · have hcells : (a.eval y).cells = (a.eval y).cells.toList.toArray := by simp
          have hl : (a.eval y).cells.size = ti.size := by rw [← Array.length_toList, l2, hbeq]
          simp [execOp, ho, Instr.storeAt, h2, Instr.sureAddr, storeVar, sizeOf, typeInfo, hti, hl, r1]
        · exact putA_rel off (RelL.ev hev (fun t ht => hP t (E.sub t ht)) (by simpa using e3)) (RelL.ev hev (fun t ht => hP t (E.sub t ht)) d1)
      · cases h
    · cases h
  | _ => rw [hv] at h; simp [storeX] at h

/-! ### structs -/
def fillA (place : Nat → Option (Nat × Nat)) (cells : List AV) : List (Nat × List AV) → Option (List AV)
  | [] => some cells
  | (i, cs) :: rest => match place i with
    | none => none
    | some (off, size) => match Nat.beq cs.length size, Nat.ble (off + cs.length) cells.length with
      | true, true => fillA place (putA cells off cs) rest
      | _, _ => none
omit [Dr] in
theorem zip_put : ∀ (us : List Value) (off j : Nat) (vs : Array Value), (us.zipIdx j).foldl (fun cs (c, j) => cs.setIfInBounds (off + j) c) vs = putCells vs (off + j) us
  | [], off, j, vs => rfl
  | u :: us, off, j, vs => by
    simp only [List.zipIdx_cons, List.foldl_cons, putCells]
    rw [zip_put us off (j + 1)]
    rfl
inductive PartsRel (E : Env) (σ : Gh) (w : World) (β : List Value) : List (Nat × List AV) → List (Nat × Value) → Prop
  | nil : PartsRel E σ w β [] []
  | cons {i : Nat} {cs : List AV} {v : Value} {xs : List (Nat × List AV)} {ys : List (Nat × Value)} : RelL E σ w β cs v.cells.toList → PartsRel E σ w β xs ys → PartsRel E σ w β ((i, cs) :: xs) ((i, v) :: ys)
theorem fillA_rel {place : Nat → Option (Nat × Nat)} : ∀ {xs : List (Nat × List AV)} {ys : List (Nat × Value)} {cs r : List AV} {vs : Array Value}, PartsRel E σ w β xs ys → RelL E σ w β cs vs.toList → fillA place cs xs = some r → ∃ rs, Instr.fill place vs ys = some rs ∧ RelL E σ w β r rs.toList
  | [], _, cs, r, vs, .nil, h, he => by
    simp only [fillA, Option.some.injEq] at he
    subst he
    exact ⟨vs, rfl, h⟩
  | (i, ds) :: xs, _, cs, r, vs, .cons (v := v) (ys := ys) h1 h2, h, he => by
    simp only [fillA] at he
    split at he
    · cases he
    · rename_i off size hp
      split at he
      · rename_i hb hl
        have hb := Nat.eq_of_beq_eq_true hb
        have hl := Nat.le_of_ble_eq_true hl
        have l1 := h1.length
        have l2 := h.length
        simp only [Array.length_toList] at l1 l2
        obtain ⟨rs, e1, e2⟩ := fillA_rel h2 (putA_rel off h h1) he
        refine ⟨rs, ?_, e2⟩
        have hc : ¬ (v.cells.size ≠ size ∨ off + v.cells.size > vs.size) := by omega
        have hz : v.cells.zipIdx.foldl (fun cs (c, j) => cs.setIfInBounds (off + j) c) vs = putCells vs off v.cells.toList := by
          have := zip_put v.cells.toList off 0 vs
          rw [Nat.add_zero] at this
          rw [← this, ← Array.foldl_toList, Array.toList_zipIdx]
        simp only [Instr.fill, hp]
        rw [if_neg (by simpa using hc), hz]
        exact e1
      · cases he
/-- the parts' cells -/
def partsX (tm : List AV) : List (Nat × Operand) → Option (List (Nat × List AV))
  | [] => some []
  | (i, x) :: r => match cellsA (aeval tm x), partsX tm r with
    | some cs, some rs => some ((i, cs) :: rs)
    | _, _ => none
theorem partsX_rel (hC : Conc E σ τ β ⟨tm, H⟩ a w) : ∀ {l : List (Nat × Operand)} {xs : List (Nat × List AV)}, partsX tm l = some xs → PartsRel E σ w β xs (l.map fun (i, x) => (i, a.eval x))
  | [], xs, h => by
    simp only [partsX, Option.some.injEq] at h
    subst h
    exact .nil
  | (i, x) :: r, xs, h => by
    simp only [partsX] at h
    split at h
    · rename_i cs rs h1 h2
      simp only [Option.some.injEq] at h
      subst h
      exact .cons (cellsA_rel (aeval_rel hC x) h1).1 (partsX_rel hC h2)
    · cases h
def placesX (P : Program) (t : TypeId) : Option (Nat → Option (Nat × Nat)) :=
  match P.underlying t with
  | some (.array _ e) => (P.info? e).map fun ie => fun i => some (i * ie.size, ie.size)
  | some (.struct fields) => (fields.toList.mapM (fun f => (P.info? f.type).map fun i => (f.offset, i.size))).map fun ps => fun i => ps.toArray[i]?
  | _ => none
def buildX (P : Program) (tm : List AV) (t : TypeId) (parts : List (Nat × Operand)) : Option AV :=
  match placesX P t, zeroX P t, partsX tm parts with
  | some place, some z, some ps => match fillA place z ps with
    | some cs => some (.agg cs)
    | none => none
  | _, _, _ => none
theorem build_sound {t : TypeId} {parts : Array (Nat × Operand)} {y : AV} (hC : Conc E σ τ β ⟨tm, H⟩ a w) (ho : o.op = .build t parts) (h : buildX P tm t parts.toList = some y) : OpOut P E σ β tm a w o H y := by
  unfold buildX at h
  split at h
  · rename_i place z ps hp hz hps
    split at h
    · rename_i cs hf
      simp only [Option.some.injEq] at h
      subst h
      unfold zeroX at hz
      split at hz
      · rename_i zz hzz
        simp only [Option.some.injEq] at hz
        subst hz
        obtain ⟨rs, e1, e2⟩ := fillA_rel (partsX_rel hC hps) (relL_vals (E := E) (σ := σ) (w := w) (β := β) zz.cells.toList) hf
        refine OpOut.same hC (v := .agg rs) ?_ (by simp only [Rel]; exact ⟨rs.toList, by simp, e2⟩)
        have hb : P.built t (parts.map fun (i, x) => (i, a.eval x)).toList = some rs := by
          obtain ⟨it, hit, hzt⟩ := Option.bind_eq_some_iff.1 hzz
          unfold placesX at hp
          unfold Program.built
          have e1' : Instr.fill place zz.cells (parts.toList.map fun (i, x) => (i, a.eval x)) = some rs := e1
          split at hp
          · rename_i n e hu
            obtain ⟨ie, hie, hpl⟩ := Option.map_eq_some_iff.1 hp
            subst hpl
            simp only [hit, hu, hzt, hie, Array.toList_map]
            exact e1'
          · rename_i fields hu
            obtain ⟨ps', hie, hpl⟩ := Option.map_eq_some_iff.1 hp
            subst hpl
            simp only [hit, hu, hzt, hie, Array.toList_map]
            exact e1'
          · cases hp
        simp [execOp, ho, run_build w t _ _ hb]
      · cases hz
    · cases h
  · cases h
end
end Go.Am
