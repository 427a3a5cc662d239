/- The walk's own words, part 6: a region that draws its order, all values told ahead but for some. No statement of its own. -/
import Derived.Test.YtfhcockdlfidmaaVk5
import Derived.Laws.StructEq
namespace Go.Vk
set_option linter.unusedVariables false
set_option linter.unusedSimpArgs false
variable [Dr]
open Go.RowKit

def All (p : Nat → Prop) : List Nat → Prop
  | [] => True
  | i :: is => p i ∧ All p is
omit [Dr] in
theorem All.mem {p : Nat → Prop} : ∀ {is : List Nat}, All p is → ∀ i ∈ is, p i
  | _ :: _, ⟨h, _⟩, _, .head _ => h
  | _ :: _, ⟨_, h⟩, _, .tail _ hm => All.mem h _ hm

/-- The frame behind the first k operations. -/
def frameAt (l : List Oper) (det : List (Option Value)) (base : Array Value) (vs : Nat → Value) (k : Nat) : Array Value := slotsOf vs det (fun q => decide (q < k)) 0 l base
def obsAt (P : Program) (l : List Oper) (det : List (Option Value)) (base : Array Value) (vs : Nat → Value) (w : World) (i : Nat) : Option (Result Next) :=
  (l[i]?).bind fun o => match Region.wanted o (yielded l.toArray (frameAt l det base vs i)) with
    | false => none
    | true => some ((execOp (Act.eval ⟨frameAt l det base vs i, []⟩) o).run P w)
def expAt (det : List (Option Value)) (skips : List Nat) (w : World) (i : Nat) : Option (Result Next) :=
  match skips.contains i with
  | true => none
  | false => some (.ok (.value ((det.getD i none).getD undef)) w)
def wantedAt (l : List Oper) (det : List (Option Value)) (base : Array Value) (vs : Nat → Value) (i : Nat) : Bool :=
  match l[i]? with
  | some o => Region.wanted o (yielded l.toArray (frameAt l det base vs i))
  | none => false
def coverB (pures imps skips : List Nat) (det : List (Option Value)) (m : Nat) : Bool :=
  ((List.range m).all fun i => pures.contains i || imps.contains i) && (pures.all fun i => (det.getD i none).isSome) && (skips.all fun i => match det.getD i none with | some (.tuple vs) => vs.isEmpty | _ => false)

omit [Dr] in
theorem OpGives.mono {P : Program} {ρ : Operand → Value} {o : Oper} {w : World} {R R' : Value → Gh → World → Prop} (h : OpGives P ρ o w R) (k : ∀ v σ' w', R v σ' w' → R' v σ' w') : OpGives P ρ o w R' := by
  unfold OpGives at h ⊢
  generalize (execOp ρ o).run P w = r at h ⊢
  cases r with
  | halt x w' => exact h.elim
  | ok nx w' =>
    cases nx <;> first | exact h.elim | skip
    · obtain ⟨σ', h⟩ := h
      exact ⟨σ', k _ _ _ h⟩
    · obtain ⟨σ', h⟩ := h
      exact ⟨σ', k _ _ _ h⟩
    · refine Calls.mono h ?_
      rintro e w'' ⟨v, σ', rfl, h⟩
      exact ⟨v, σ', rfl, k _ _ _ h⟩

/-- What is told of operation i's value. -/
def Told (det : List (Option Value)) (V : Nat → Value → Gh → World → Prop) (i : Nat) (v : Value) (σ : Gh) (w : World) : Prop :=
  match det.getD i none with
  | some d => v = d
  | none => V i v σ w
structure Ob (P : Program) (det : List (Option Value)) (V : Nat → Value → Gh → World → Prop) (i : Nat) (ρ : Operand → Value) (o : Oper) (σ : Gh) (w : World) : Prop where
  out : OpGives P ρ o w (fun v σ' w' => Ev 1 1 σ w σ' w' ∧ Told det V i v σ' w')
section
variable {P : Program} {det : List (Option Value)} {V : Nat → Value → Gh → World → Prop} {i : Nat} {ρ : Operand → Value} {o : Oper} {σ : Gh} {w : World} {d : Value}
omit [Dr] in
theorem told_det {v : Value} {σ : Gh} {w : World} (hd : det.getD i none = some d) (h : v = d) : Told det V i v σ w := by unfold Told; rw [hd]; exact h
omit [Dr] in
theorem told_und {v : Value} {σ : Gh} {w : World} (hd : det.getD i none = none) (h : V i v σ w) : Told det V i v σ w := by unfold Told; rw [hd]; exact h
theorem ob_val (d : Value) (hd : det.getD i none = some d) (hr : (execOp ρ o).run P w = .ok (.value d) w) : Ob P det V i ρ o σ w := ⟨OpGives.val σ hr ⟨Ev.refl .., told_det hd rfl⟩⟩
theorem ob_bool (c b : Bool) (hd : det.getD i none = some (.bool b)) (hr : (execOp ρ o).run P w = .ok (.value (.bool c)) w) (hb : c = b) : Ob P det V i ρ o σ w := ⟨OpGives.val σ hr ⟨Ev.refl .., told_det hd (by rw [hb])⟩⟩
theorem ob_call (d : Value) {f : FuncId} {args : Array Value} {R' : Value → Gh → World → Prop} (hd : det.getD i none = some d) (hr : (execOp ρ o).run P w = .ok (.enter f args) w) (hc : Gives P f args 1 1 σ w R') (hk : ∀ v σ' w', R' v σ' w' → v = d) : Ob P det V i ρ o σ w :=
  ⟨OpGives.call hr hc (fun v σ' w' hE hP => ⟨hE, told_det hd (hk v σ' w' hP)⟩)⟩
end

section
variable {P : Program} {l : List Oper} {base : Array Value} {Q : Exit → Act → World → Prop}
/-- The prefix in any order, the tail (from m on) in the text's. V: what is told of the values that aren't known ahead. -/
theorem wp_region_mix {id : Nat} {w : World} (hm : P.follows .mixedOrders = true) (m : Nat) (hB : regionOk l m = true) (hml : Nat.ble m l.length = true) (det : List (Option Value)) (pures imps skips : List Nat) (V : Nat → Value → Gh → World → Prop) (σ0 : Gh)
    (hund : (match undef with | .tuple vs => vs.isEmpty | _ => false) = true)
    (hp : ∀ vs w, pures.map (obsAt P l det base vs w) = pures.map (expAt det skips w))
    (hw : ∀ vs, imps.map (wantedAt l det base vs) = imps.map (fun _ => true))
    (hc : coverB pures imps skips det m = true)
    (hV : ∀ j v σ w σ' w', V j v σ w → Ev 1 1 σ w σ' w' → V j v σ' w')
    (hi : All (fun i => ∀ (vs : Nat → Value) o σ w1, l[i]? = some o → Ev 1 1 σ0 w σ w1 → (∀ j, ((masks l []).getD i 0).testBit j = true → det.getD j none = none → V j (vs j) σ w1) →
      Ob P det V i (Act.eval ⟨frameAt l det base vs i, []⟩) o σ w1) imps)
    (tail : ∀ (vs : Nat → Value) σ w1, Ev 1 1 σ0 w σ w1 → (∀ j, j < m → det.getD j none = none → V j (vs j) σ w1) → wpList P l.toArray Q (l.drop m) ⟨frameAt l det base vs m, []⟩ w1) :
    (Code.region id l.toArray true).wp P Q ⟨base, []⟩ w := by
  simp only [coverB, Bool.and_eq_true] at hc
  obtain ⟨⟨hc1, hc2⟩, hc3⟩ := hc
  refine wp_region_order hm m hB (Nat.le_of_ble_eq_true hml) det V (fun _ σ w1 => Ev 1 1 σ0 w σ w1) σ0 (ev_drew ..) ?_ (fun vs σ w1 h h' => tail vs σ w1 h h')
  intro i o him ho S vs σ w1 hS hSi hI hVs
  have hcov := List.all_eq_true.1 hc1 i (by simpa using him)
  rw [Bool.or_eq_true] at hcov
  rcases hcov with hcov | hcov
  · have hmem : i ∈ pures := by simpa using hcov
    have hdet := List.all_eq_true.1 hc2 i hmem
    have he := List.map_inj_left.1 (hp vs w1) i hmem
    unfold obsAt expAt at he
    rw [ho] at he
    simp only [Option.bind_some] at he
    show match Region.wanted o (yielded l.toArray (frameAt l det base vs i)) with | false => _ | true => _
    cases hwt : Region.wanted o (yielded l.toArray (frameAt l det base vs i)) with
    | false =>
      rw [hwt] at he
      cases hsk : skips.contains i with
      | false => rw [hsk] at he; simp at he
      | true =>
        have h3 := List.all_eq_true.1 hc3 i (by simpa using hsk)
        refine ⟨?_, hI⟩
        cases hd : det.getD i none with
        | none => rw [hd] at hdet; simp at hdet
        | some d =>
          rw [hd] at h3
          cases d <;> first | (simp at h3; done) | skip
          rename_i vs0
          have : vs0 = #[] := by simpa using h3
          subst this
          rfl
    | true =>
      rw [hwt] at he
      cases hsk : skips.contains i with
      | true => rw [hsk] at he; simp at he
      | false =>
        rw [hsk] at he
        simp only [Option.some.injEq] at he
        refine OpGives.val σ he ⟨hI, fun _ _ _ _ h => h, ?_⟩
        cases hd : det.getD i none with
        | none => rw [hd] at hdet; simp at hdet
        | some d => rfl
  · have hmem : i ∈ imps := by simpa using hcov
    have hwt : wantedAt l det base vs i = true := List.map_inj_left.1 (hw vs) i hmem
    unfold wantedAt at hwt
    rw [ho] at hwt
    simp only at hwt
    show match Region.wanted o (yielded l.toArray (frameAt l det base vs i)) with | false => _ | true => _
    rw [hwt]
    have h := hi.mem i hmem vs o σ w1 ho hI (fun j hj hd => hVs j (hS j hj) hd)
    exact OpGives.mono h.out (fun v σ' w' ⟨h1, h2⟩ => ⟨hI.trans h1, fun j u _ _ hv => hV _ _ _ _ _ _ hv h1, h2⟩)
end

section exs
variable {P : Program} {o : Oper} {w : World} {ρ : Operand → Value}
omit [Dr] in
theorem ex_load1 {t : TypeId} {x : Operand} {p : Addr} {v : Value} (ho : o.op = .load t x) (hx : ρ x = .pointer (some p)) (hT : scalarB P t = true) (hc : w.cell? p = some v) : (execOp ρ o).run P w = .ok (.value v) w := by
  simp [execOp, ho, Instr.loadAt, hx, Instr.sureAddr, run_loadVar1 hT hc]
omit [Dr] in
theorem ex_loadN {t : TypeId} {x : Operand} {p : Addr} {cs : List Value} (ho : o.op = .load t x) (hx : ρ x = .pointer (some p)) (hT : aggB P t = true) (hs : (P.info? t).map (·.size) = some cs.length) (hc : ∀ j v, cs[j]? = some v → w.cell? (p.add j) = some v) :
    (execOp ρ o).run P w = .ok (.value (.agg cs.toArray)) w := by
  simp [execOp, ho, Instr.loadAt, hx, Instr.sureAddr, run_loadVarN hT hs hc]
omit [Dr] in
theorem ex_index {t e : TypeId} {x ix : Operand} {ad : Addr} {n c : Nat} {k : IntKind} {i : Int} {sz : Nat} (ho : o.op = .indexAddr t x ix)
    (ht : P.underlying t = some (.slice e)) (hs : (P.info? e).map (·.size) = some sz) (hx : ρ x = .slice (some ad) n c) (hi : ρ ix = .int k i) (h0 : 0 ≤ i) (h1 : i < n) :
    (execOp ρ o).run P w = .ok (.value (.pointer (some (ad.add (i.toNat * sz))))) w := by
  simp [execOp, ho, Instr.indexAt, hx, hi, asIntOf, run_underlying ht, h0, h1, run_sizeOf hs]
end exs

theorem Rd.some_ {α : Type} {K : Kd α} {σ : Gh} {t : Nat} {w : World} {A : Option Addr} {xs : List α} (h : Rd K σ t w A xs) {i : Int} (h0 : 0 ≤ i) (h1 : i < xs.length) : ∃ ad, A = some ad := by
  obtain ⟨ad, e, _⟩ := h (by omega)
  exact ⟨ad, e⟩
theorem flat_cells {α : Type} {sz : Nat} {enc : α → List Value} {hl h1'} {σ : Gh} {t : Nat} {w : World} {ad : Addr} {xs : List α} (h : Rd (Kd.flat sz enc hl h1') σ t w (some ad) xs) (i : Int) (h0 : 0 ≤ i) (h1 : i < xs.length) (d : α) :
    ∀ j u, (enc (xs.getD i.toNat d))[j]? = some u → w.cell? ((ad.add (i.toNat * sz)).add j) = some u := by
  obtain ⟨ad', cs, e, hrep, hc⟩ := Rd.at2 h i h0 h1 d
  obtain rfl := Option.some.inj e
  intro j u hu
  exact hc j u (by rw [show cs = enc (xs.getD i.toNat d) from hrep]; exact hu)

omit [Dr] in
theorem wl_done {P : Program} {ops : Array Oper} {Q : Exit → Act → World → Prop} {a : Act} {w : World} (h : Q .normal a w) : wpList P ops Q [] a w := h

/-! ### struct equality -/
omit [Dr] in
theorem run_eql_of {P : Program} {ρ : Operand → Value} {o : Oper} {w : World} {x y : Operand} {t u : TypeId} {vx vy : Value} {c : Bool} (ho : o.op = .binOp .eql t x y u) (hx : ρ x = vx) (hy : ρ y = vy)
    (hq : (do eqGuard .eql t x y vx vy; binOp .eql t vx vy : Sem Value).run P w = .ok (.bool c) w) : (execOp ρ o).run P w = .ok (.value (.bool c)) w := by
  subst hx hy
  simp only [execOp, ho, Sem.run_bind, hq]
  rfl
omit [Dr] in
theorem run_neq_of {P : Program} {ρ : Operand → Value} {o : Oper} {w : World} {x y : Operand} {t u : TypeId} {vx vy : Value} {c : Bool} (ho : o.op = .binOp .neq t x y u) (hx : ρ x = vx) (hy : ρ y = vy)
    (hq : (do eqGuard .neq t x y vx vy; binOp .neq t vx vy : Sem Value).run P w = .ok (.bool c) w) : (execOp ρ o).run P w = .ok (.value (.bool c)) w := by
  subst hx hy
  simp only [execOp, ho, Sem.run_bind, hq]
  rfl

omit [Dr] in
theorem eqf1 {P : Program} {w : World} {d : Nat} {xs ys : Array Value} {f : Field} {fs : List Field} {r s : Bool} (a b : Value) (hn : (f.name == "_") = false) (ha : (part f.type xs f.offset).run P w = .ok a w) (hb : (part f.type ys f.offset).run P w = .ok b w)
    (he : (Op.equalIn d f.type a b).run P w = .ok r w) (hr : (Op.eqFields d xs ys fs).run P w = .ok s w) : (Op.eqFields d xs ys (f :: fs)).run P w = .ok (r && s) w := by
  have hn' : f.name ≠ "_" := by simpa using hn
  rw [Op.eqFields]
  simp only [if_pos hn', Sem.run_bind, ha, hb, he, Result.andThen_ok]
  cases r
  · simp
  · simpa using hr
omit [Dr] in
theorem eqf0 {P : Program} {w : World} {d : Nat} {xs ys : Array Value} : (Op.eqFields d xs ys []).run P w = .ok true w := rfl
omit [Dr] in
theorem eqA {P : Program} {w : World} {d : Nat} {xs ys : Array Value} {t : TypeId} {fs : Array Field} {r : Bool} (hu : P.underlying t = some (.struct fs)) (hp : P.stoodInHeld t = false) (h : (Op.eqFields d xs ys fs.toList).run P w = .ok r w) : (Op.equalIn (d + 1) t (.agg xs) (.agg ys)).run P w = .ok r w := by
  have hf : P.fieldsOf t = fs := by simp [Program.fieldsOf, hu]
  rw [run_equalIn_struct (P := P) w d t xs ys (by rw [hf]; exact hu) hp, hf]
  exact h
omit [Dr] in
theorem eq_top {P : Program} {w : World} {t : TypeId} {x y : Operand} {xs ys : Array Value} {c : Bool} (hg : (eqGuard .eql t x y (.agg xs) (.agg ys)).run P w = .ok () w) (he : (Op.equalIn (9999 + 1) t (.agg xs) (.agg ys)).run P w = .ok c w) :
    (do eqGuard .eql t x y (.agg xs) (.agg ys); binOp .eql t (.agg xs) (.agg ys) : Sem Value).run P w = .ok (.bool c) w := by
  have he' : (Op.equal t (.agg xs) (.agg ys)).run P w = .ok c w := he
  simp only [Sem.run_bind, hg, Result.andThen_ok, binOp, he']
  rfl
omit [Dr] in
theorem neq_top {P : Program} {w : World} {t : TypeId} {x y : Operand} {xs ys : Array Value} {c : Bool} (hg : (eqGuard .neq t x y (.agg xs) (.agg ys)).run P w = .ok () w) (he : (Op.equalIn (9999 + 1) t (.agg xs) (.agg ys)).run P w = .ok c w) :
    (do eqGuard .neq t x y (.agg xs) (.agg ys); binOp .neq t (.agg xs) (.agg ys) : Sem Value).run P w = .ok (.bool (!c)) w := by
  have he' : (Op.equal t (.agg xs) (.agg ys)).run P w = .ok c w := he
  simp only [Sem.run_bind, hg, Result.andThen_ok, binOp, he']
  rfl

/-! ### results -/
def resRun (tmps : Array Value) : ResultVar → Sem Value
  | .tmp t => pure (tmps.getD t undef)
  | .cell a t => do loadVar t (← asAddr (tmps.getD a undef))
section
variable {P : Program} {w : World} {fn : Func} {tmps : Array Value}
omit [Dr] in
theorem res1 {r1 : ResultVar} {v1 : Value} (h : fn.results = #[r1]) (h1 : (resRun tmps r1).run P w = .ok v1 w) : (results fn tmps).run P w = .ok v1 w := by
  have e : results fn tmps = (do let vs ← fn.results.mapM (resRun tmps); pure (if h : vs.size = 1 then vs[0] else .tuple vs)) := by
    unfold results; congr 1
  rw [e, h]
  simp [h1]
omit [Dr] in
theorem res2 {r1 r2 : ResultVar} {v1 v2 : Value} (h : fn.results = #[r1, r2]) (h1 : (resRun tmps r1).run P w = .ok v1 w) (h2 : (resRun tmps r2).run P w = .ok v2 w) : (results fn tmps).run P w = .ok (.tuple #[v1, v2]) w := by
  have e : results fn tmps = (do let vs ← fn.results.mapM (resRun tmps); pure (if h : vs.size = 1 then vs[0] else .tuple vs)) := by
    unfold results; congr 1
  rw [e, h]
  simp [h1, h2]
omit [Dr] in
theorem res3 {r1 r2 r3 : ResultVar} {v1 v2 v3 : Value} (h : fn.results = #[r1, r2, r3]) (h1 : (resRun tmps r1).run P w = .ok v1 w) (h2 : (resRun tmps r2).run P w = .ok v2 w) (h3 : (resRun tmps r3).run P w = .ok v3 w) : (results fn tmps).run P w = .ok (.tuple #[v1, v2, v3]) w := by
  have e : results fn tmps = (do let vs ← fn.results.mapM (resRun tmps); pure (if h : vs.size = 1 then vs[0] else .tuple vs)) := by
    unfold results; congr 1
  rw [e, h]
  simp [h1, h2, h3]
omit [Dr] in
theorem res_cell1 {s : Tmp} {T : TypeId} {p : Addr} {v : Value} (hs : tmps.getD s undef = .pointer (some p)) (hT : scalarB P T = true) (hc : w.cell? p = some v) : (resRun tmps (.cell s T)).run P w = .ok v w := by
  simp [resRun, hs, asAddr, run_loadVar1 hT hc]
omit [Dr] in
theorem res_cellN {s : Tmp} {T : TypeId} {p : Addr} {cs : List Value} (hs : tmps.getD s undef = .pointer (some p)) (hT : aggB P T = true) (hz : (P.info? T).map (·.size) = some cs.length) (hc : ∀ j v, cs[j]? = some v → w.cell? (p.add j) = some v) : (resRun tmps (.cell s T)).run P w = .ok (.agg cs.toArray) w := by
  simp [resRun, hs, asAddr, run_loadVarN hT hz hc]
end

/-! ### cuts -/
section
variable {P : Program} {ops : Array Oper} {Q : Exit → Act → World → Prop} {o : Oper} {rest : List Oper} {a : Act} {w : World}
theorem Rd.addr {α : Type} {K : Kd α} {σ : Gh} {t : Nat} {A A' : Option Addr} {xs : List α} (h : Rd K σ t w A xs) (hA : A' = A) : Rd K σ t w A' xs := hA ▸ h
omit [Dr] in
theorem add0_map (A : Option Addr) (n : Nat) : A.map (fun x => x.add (0 * n)) = A := by cases A <;> simp [Addr.add]

def BoundIs (ρ : Operand → Value) (y : Option Operand) (d v : Nat) : Prop :=
  match y with
  | none => v = d
  | some y => ∃ k i, ρ y = .int k i ∧ i = (v : Int)

omit [Dr] in
theorem ex_slice {ρ : Operand → Value} {t e : TypeId} {x : Operand} {lo hi : Option Operand} {A : Option Addr} {n c l h sz : Nat} (ho : o.op = .slice t x lo hi none) (ht : P.underlying t = some (.slice e)) (hs : (P.info? e).map (·.size) = some sz)
    (hx : ρ x = .slice A n c) (hl : BoundIs ρ lo 0 l) (hh : BoundIs ρ hi n h) (h1 : l ≤ h) (h2 : h ≤ c) :
    (execOp ρ o).run P w = .ok (.value (.slice (if c = l then A else A.map (·.add (l * sz))) (h - l) (c - l))) w := by
  have hsl : (Instr.sliceAt t (ρ x) (lo.map ρ) (hi.map ρ) none).run P w = .ok (.slice (if c = l then A else A.map (·.add (l * sz))) (h - l) (c - l)) w := by
    have hb : (Instr.sliceBounds true n c (lo.map ρ) (hi.map ρ) none).run P w = .ok (l, h, c) w := by
      cases lo <;> cases hi <;> simp only [BoundIs] at hl hh
      · subst hl hh; simp [Instr.sliceBounds]
      · obtain ⟨k, i, hk, rfl⟩ := hh; subst hl
        simp [Instr.sliceBounds, hk, Instr.sliceBound, asIntOf, h2]
      · obtain ⟨k, i, hk, rfl⟩ := hl; subst hh
        simp [Instr.sliceBounds, hk, Instr.sliceBound, asIntOf, h1]
      · obtain ⟨k, i, hk, rfl⟩ := hl; obtain ⟨k', i', hk', rfl⟩ := hh
        simp [Instr.sliceBounds, hk, hk', Instr.sliceBound, asIntOf, h1, h2]
    simp [Instr.sliceAt, Instr.slice, run_underlying ht, hx, hb, run_sizeOf hs]
  simp [execOp, ho, hsl]

/-- 'x[lo:hi]': the cut reads as the list's cut. -/
theorem st_slice {α : Type} {K : Kd α} {σ : Gh} {t : Nat} {T e : TypeId} {x : Operand} {lo hi : Option Operand} {A : Option Addr} {xs : List α} {c : Nat} (l h : Nat) (hR : Rd K σ t w A xs) (hcap : xs.length ≤ c) (hw : Region.wanted o (yielded ops a.tmps) = true) (ho : o.op = .slice T x lo hi none) (ht : P.underlying T = some (.slice e)) (hs : (P.info? e).map (·.size) = some K.sz)
    (hx : a.eval x = .slice A xs.length c) (hl : BoundIs a.eval lo 0 l) (hh : BoundIs a.eval hi xs.length h) (h1 : l ≤ h) (h2 : h ≤ xs.length)
    (k : ∀ A', Rd K σ t w A' ((xs.take h).drop l) → ((xs.take h).drop l).length ≤ c - l → wpList P ops Q rest (a.put o.dst (.slice A' ((xs.take h).drop l).length (c - l))) w) : wpList P ops Q (o :: rest) a w := by
  have hlen : ((xs.take h).drop l).length = h - l := by simp; omega
  have hr := ex_slice (P := P) (w := w) (l := l) (h := h) ho ht hs hx hl hh h1 (by omega)
  rw [← hlen] at hr
  refine st_val hw hr (k _ ?_ (by omega))
  have hrd : Rd K σ t w (if c = l then A else A.map (·.add (l * K.sz))) ((xs.take h).drop l) := (hR.take h).drop l c (by simp; omega)
  exact hrd
end
end Go.Vk
