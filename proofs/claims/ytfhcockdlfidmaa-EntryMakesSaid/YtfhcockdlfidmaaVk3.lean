/- The walk's own words, part 3: steps of a region that touch memory. No statement of its own. -/
import Derived.Test.YtfhcockdlfidmaaVk2
namespace Go.Vk
open Go.RowKit
variable [Dr]

def scalarB (P : Program) (t : TypeId) : Bool := match P.underlying t with
  | some (.struct _) | some (.array ..) | none => false
  | _ => true
def aggB (P : Program) (t : TypeId) : Bool := match P.underlying t with
  | some (.struct _) | some (.array ..) => true
  | _ => false

section runs
variable {P : Program} {w : World}
omit [Dr] in
theorem run_isAgg_false {t : TypeId} (h : scalarB P t = true) : (isAgg t).run P w = .ok false w := by
  unfold scalarB at h
  cases hu : P.underlying t with
  | none => simp [hu] at h
  | some d =>
    simp only [hu] at h
    cases d <;> first | (simp at h; done) | simp [isAgg, run_underlying hu]
omit [Dr] in
theorem run_isAgg_true {t : TypeId} (h : aggB P t = true) : (isAgg t).run P w = .ok true w := by
  unfold aggB at h
  cases hu : P.underlying t with
  | none => simp [hu] at h
  | some d =>
    simp only [hu] at h
    cases d <;> first | (simp at h; done) | simp [isAgg, run_underlying hu]
omit [Dr] in
theorem run_sizeOf {t : TypeId} {n : Nat} (h : (P.info? t).map (·.size) = some n) : (sizeOf t).run P w = .ok n w := by
  obtain ⟨i, hi, rfl⟩ := Option.map_eq_some_iff.1 h
  simp [sizeOf, typeInfo, hi]
omit [Dr] in
theorem run_loadVar1 {t : TypeId} {a : Addr} {v : Value} (hT : scalarB P t = true) (h : w.cell? a = some v) : (loadVar t a).run P w = .ok v w := by
  simp [loadVar, run_isAgg_false hT, load, Sem.run, h]
omit [Dr] in
theorem run_loadVarN {t : TypeId} {a : Addr} {cs : List Value} (hT : aggB P t = true) (hs : (P.info? t).map (·.size) = some cs.length) (h : ∀ j v, cs[j]? = some v → w.cell? (a.add j) = some v) :
    (loadVar t a).run P w = .ok (.agg cs.toArray) w := by
  simp [loadVar, run_isAgg_true hT, run_sizeOf hs, run_loadCells_list w a cs h]
end runs

section steps
variable {P : Program} {ops : Array Oper} {Q : Exit → Act → World → Prop} {o : Oper} {rest : List Oper} {a : Act} {w : World}

omit [Dr] in
theorem st_load1 {t : TypeId} {x : Operand} {p : Addr} {v : Value} (hw : Region.wanted o (yielded ops a.tmps) = true) (ho : o.op = .load t x)
    (hx : a.eval x = .pointer (some p)) (hT : scalarB P t = true) (hc : w.cell? p = some v) (k : wpList P ops Q rest (a.put o.dst v) w) : wpList P ops Q (o :: rest) a w := by
  refine st_val hw ?_ k
  simp [execOp, ho, Instr.loadAt, hx, Instr.sureAddr, run_loadVar1 hT hc]

omit [Dr] in
theorem st_loadN {t : TypeId} {x : Operand} {p : Addr} {cs : List Value} (hw : Region.wanted o (yielded ops a.tmps) = true) (ho : o.op = .load t x)
    (hx : a.eval x = .pointer (some p)) (hT : aggB P t = true) (hs : (P.info? t).map (·.size) = some cs.length) (hc : ∀ j v, cs[j]? = some v → w.cell? (p.add j) = some v)
    (k : wpList P ops Q rest (a.put o.dst (.agg cs.toArray)) w) : wpList P ops Q (o :: rest) a w := by
  refine st_val hw ?_ k
  simp [execOp, ho, Instr.loadAt, hx, Instr.sureAddr, run_loadVarN hT hs hc]

omit [Dr] in
/-- The address of an element of a slice. -/
theorem st_index {t e : TypeId} {x ix : Operand} {ad : Addr} {n c : Nat} {k : IntKind} {i : Int} {sz : Nat} (hw : Region.wanted o (yielded ops a.tmps) = true) (ho : o.op = .indexAddr t x ix)
    (ht : P.underlying t = some (.slice e)) (hs : (P.info? e).map (·.size) = some sz) (hx : a.eval x = .slice (some ad) n c) (hi : a.eval ix = .int k i) (h0 : 0 ≤ i) (h1 : i < n)
    (kk : wpList P ops Q rest (a.put o.dst (.pointer (some (ad.add (i.toNat * sz))))) w) : wpList P ops Q (o :: rest) a w := by
  refine st_val hw ?_ kk
  simp [execOp, ho, Instr.indexAt, hx, hi, asIntOf, run_underlying ht, h0, h1, run_sizeOf hs]

/-- A new block of its own. -/
theorem st_box (σ : Gh) (t : Nat) {T : TypeId} {x : Operand} {v : Value} (hw : Region.wanted o (yielded ops a.tmps) = true) (ho : o.op = .box T x) (hx : a.eval x = v) (cs : Array Value) (hcs : v.cells = cs)
    (k : ∀ b σ' w', Ev 1 1 σ w σ' w' → Blk σ' t w' b T cs → wpList P ops Q rest (a.put o.dst (.pointer (some ⟨b, 0, none⟩))) w') : wpList P ops Q (o :: rest) a w := by
  refine st_val (v := .pointer (some ⟨w.heap.size, 0, none⟩)) (w' := { w with heap := w.heap.push (.cells cs T) }) hw ?_ (k _ _ _ (ev_alloc σ w _ t 1 1) (blk_alloc σ w cs T t))
  simp [execOp, ho, Instr.box, hx, newVar, newRow, newObj, hcs, Sem.run]

theorem st_alloc (σ : Gh) (t : Nat) {T : TypeId} {z : Value} (hw : Region.wanted o (yielded ops a.tmps) = true) (ho : o.op = .alloc T) (hz : ((P.info? T).bind (·.zero)) = some z) (cs : Array Value) (hcs : z.cells = cs)
    (k : ∀ b σ' w', Ev 1 1 σ w σ' w' → Blk σ' t w' b T cs → wpList P ops Q rest (a.put o.dst (.pointer (some ⟨b, 0, none⟩))) w') : wpList P ops Q (o :: rest) a w := by
  refine st_val (v := .pointer (some ⟨w.heap.size, 0, none⟩)) (w' := { w with heap := w.heap.push (.cells cs T) }) hw ?_ (k _ _ _ (ev_alloc σ w _ t 1 1) (blk_alloc σ w cs T t))
  obtain ⟨i, hi, hzz⟩ := Option.bind_eq_some_iff.1 hz
  simp [execOp, ho, Instr.alloc, zeroValue, typeInfo, hi, hzz, newVar, newRow, newObj, hcs, Sem.run]

/-- A store of one cell into a known block. -/
theorem st_store1 {σ : Gh} {t b i : Nat} {T T' : TypeId} {cs cs' : Array Value} {x y : Operand} {v : Value} (hB : Blk σ t w b T cs) (hw : Region.wanted o (yielded ops a.tmps) = true) (ho : o.op = .store T' x y)
    (hx : a.eval x = .pointer (some ⟨b, i, none⟩)) (hy : a.eval y = v) (h1 : v.oneCell' = true) (hv : v.cells = #[v]) (hs : (P.info? T').map (·.size) = some 1) (hi : i < cs.size) (hcs : cs.setIfInBounds i v = cs')
    (k : ∀ w', Ev t (t + 1) σ w σ w' → Blk σ t w' b T cs' → wpList P ops Q rest (a.put o.dst undef) w') : wpList P ops Q (o :: rest) a w := by
  refine st_unit (w' := w.setCell ⟨b, i, none⟩ v) hw ?_ (k _ (hB.ev_set i v) (hcs ▸ hB.set_ i v))
  have hc : w.cell? ⟨b, i, none⟩ = some (cs[i]) := by rw [hB.cell]; exact Array.getElem?_eq_getElem hi
  have ha : (⟨b, i, none⟩ : Addr).add 0 = ⟨b, i, none⟩ := rfl
  have hf := hB.frozen i
  cases v <;> first | (simp [Value.oneCell'] at h1; done) | simp [execOp, ho, Instr.storeAt, hx, hy, Instr.sureAddr, storeVar, hv, run_sizeOf hs, storeCells, store, ha, Sem.run, hc, hf]

/-- What several cells in a row leave. -/
def putCells (cs : Array Value) (i : Nat) : List Value → Array Value
  | [] => cs
  | v :: vs => putCells (cs.setIfInBounds i v) (i + 1) vs

theorem run_storeCells_blk {σ : Gh} {t b : Nat} {T : TypeId} (i : Nat) : ∀ (vs : List Value) (j : Nat) (cs : Array Value) (w : World), Blk σ t w b T cs → i + j + vs.length ≤ cs.size → (∀ v ∈ vs, v.oneCell' = true) →
    ∃ w', (storeCells ⟨b, i, none⟩ vs j).run P w = .ok () w' ∧ Ev t (t + 1) σ w σ w' ∧ Blk σ t w' b T (putCells cs (i + j) vs)
  | [], j, cs, w, hB, _, _ => ⟨w, by simp [storeCells], Ev.refl .., hB⟩
  | v :: vs, j, cs, w, hB, hl, h1 => by
    have hlen : (v :: vs).length = vs.length + 1 := rfl
    have hi : i + j < cs.size := by omega
    have hc : w.cell? ⟨b, i + j, none⟩ = some (cs[i + j]) := by rw [hB.cell]; exact Array.getElem?_eq_getElem hi
    have hf := hB.frozen (i + j)
    obtain ⟨w', h2, h3, h4⟩ := run_storeCells_blk i vs (j + 1) (cs.setIfInBounds (i + j) v) (w.setCell ⟨b, i + j, none⟩ v) (hB.set_ _ _) (by simp; omega) (fun u hu => h1 u (by simp [hu]))
    refine ⟨w', ?_, (hB.ev_set _ _).trans h3, h4⟩
    have hv := h1 v (by simp)
    cases v <;> first | (simp [Value.oneCell'] at hv; done) | simp [storeCells, store, add_mk, Sem.run, hc, hf, h2]

theorem st_storeN {σ : Gh} {t b i : Nat} {T T' : TypeId} {cs cs' : Array Value} {x y : Operand} {v : Value} (vs : List Value) (hB : Blk σ t w b T cs) (hw : Region.wanted o (yielded ops a.tmps) = true) (ho : o.op = .store T' x y)
    (hx : a.eval x = .pointer (some ⟨b, i, none⟩)) (hy : a.eval y = v) (hv : v.cells = vs.toArray) (h1 : (vs.all fun u => u.oneCell') = true) (hs : (P.info? T').map (·.size) = some vs.length) (hi : i + vs.length ≤ cs.size) (hcs : putCells cs i vs = cs')
    (k : ∀ w', Ev t (t + 1) σ w σ w' → Blk σ t w' b T cs' → wpList P ops Q rest (a.put o.dst undef) w') : wpList P ops Q (o :: rest) a w := by
  obtain ⟨w', h2, h3, h4⟩ := run_storeCells_blk (P := P) i vs 0 cs w hB (by omega) (fun u hu => List.all_eq_true.1 h1 u hu)
  refine st_unit (w' := w') hw ?_ (k w' h3 (hcs ▸ h4))
  simp [execOp, ho, Instr.storeAt, hx, hy, Instr.sureAddr, storeVar, hv, run_sizeOf hs, h2]

/-- A row that is written out. -/
theorem st_row (σ : Gh) (t : Nat) {e : TypeId} {n : Nat} (cs : Array Value) (hw : Region.wanted o (yielded ops a.tmps) = true)
    (hr : (execOp a.eval o).run P w = .ok (.value (.slice (some ⟨w.heap.size, 0, none⟩) n n)) { w with heap := w.heap.push (.cells cs e) })
    (k : ∀ b σ' w', Ev 1 1 σ w σ' w' → Blk σ' t w' b e cs → wpList P ops Q rest (a.put o.dst (.slice (some ⟨b, 0, none⟩) n n)) w') : wpList P ops Q (o :: rest) a w :=
  st_val hw hr (k _ _ _ (ev_alloc σ w _ t 1 1) (blk_alloc σ w cs e t))
end steps

section
variable {α : Type} {K : Kd α} {e : TypeId} {σ : Gh} {t : Nat} {w : World}
theorem own_blk {b : Nat} {cs : Array Value} {xs : List α} {n : Nat} (h : Blk σ t w b e cs) (hn : xs.length = n) (hm : n ≤ 1099511627776) (hr : Reps K σ w xs cs.toList) : Own K e σ t w (.slice (some ⟨b, 0, none⟩) n n) xs := by
  subst hn
  have hl := hr.len
  refine ⟨cs.toList, ⟨hl, .inr ⟨b, xs.length, cs, rfl, Nat.zero_le _, h.2, Nat.le_refl _, by simp only [maxLen]; omega, by simpa using hl, ?_⟩⟩, fun g hg => ?_, hr⟩
  · rw [← hl]; exact List.take_length
  · have : b = g := by simpa [Value.ownBlock] using hg
    subst this; exact h.1
theorem reps_flat {α : Type} {sz : Nat} {enc : α → List Value} {hl h1} (σ : Gh) (w : World) : ∀ xs : List α, Reps (Kd.flat sz enc hl h1) σ w xs (xs.flatMap enc)
  | [] => rfl
  | x :: xs => ⟨enc x, xs.flatMap enc, by simp, rfl, reps_flat σ w xs⟩
theorem Rd.cells : ∀ {xs : List α} {ad : Addr}, (∀ j (h : j < xs.length), ∃ cs, K.rep σ w xs[j] cs ∧ ∀ i u, cs[i]? = some u → w.cell? (ad.add (j * K.sz + i)) = some u) →
    ∃ cs, Reps K σ w xs cs ∧ ∀ j u, cs[j]? = some u → w.cell? (ad.add j) = some u
  | [], ad, _ => ⟨[], rfl, fun j u h => by simp at h⟩
  | x :: xs, ad, h => by
    obtain ⟨c, h1, h2⟩ := h 0 (by simp)
    obtain ⟨r, h3, h4⟩ := Rd.cells (xs := xs) (ad := ad.add K.sz) (fun j hj => by
      obtain ⟨cs, h5, h6⟩ := h (j + 1) (by simpa using hj)
      refine ⟨cs, by simpa using h5, fun i u hu => ?_⟩
      rw [add_add]
      have := h6 i u hu
      rwa [show (j + 1) * K.sz + i = K.sz + (j * K.sz + i) by rw [Nat.add_mul]; omega] at this)
    have hc := K.len h1
    refine ⟨c ++ r, ⟨c, r, rfl, h1, h3⟩, fun j u hu => ?_⟩
    rcases Nat.lt_or_ge j c.length with hj | hj
    · rw [List.getElem?_append_left hj] at hu
      have := h2 j u hu
      rwa [Nat.zero_mul, Nat.zero_add] at this
    · rw [List.getElem?_append_right hj] at hu
      have := h4 _ u hu
      rw [add_add] at this
      rwa [show K.sz + (j - c.length) = j by omega] at this
end

section
variable {P : Program} {ops : Array Oper} {Q : Exit → Act → World → Prop} {o : Oper} {rest : List Oper} {a : Act} {w : World}
theorem st_append {α : Type} {K : Kd α} {e st : TypeId} {σ : Gh} {t t2 : Nat} {v : Value} {xs ys : List α} {A : Option Addr} {c : Nat} {x y : Operand} {z : Value} {bytes : Nat}
    (hO : Own K e σ t w v xs) (hR : Rd K σ t2 w A ys) (hw : Region.wanted o (yielded ops a.tmps) = true) (ho : o.op = .call { callee := .builtin .append, args := #[x, y], argTypes := #[st, st] })
    (hx : a.eval x = v) (hy : a.eval y = .slice A ys.length c) (ht : P.underlying st = some (.slice e)) (hinfo : (P.info? e).map (fun i => (i.zero, i.size, i.bytes)) = some (some z, K.sz, bytes)) (hz : z.cells.size = K.sz)
    (hsz : 0 < K.sz) (hby : bytes ≤ 128) (h1 : 1 ≤ t) (hb : xs.length + ys.length ≤ 1099511627776)
    (k : ∀ v' σ' w', Ev t (t + 1) σ w σ' w' → Own K e σ' t w' v' (xs ++ ys) → wpList P ops Q rest (a.put o.dst v') w') : wpList P ops Q (o :: rest) a w := by
  obtain ⟨i0, hi, hzz⟩ := Option.map_eq_some_iff.1 hinfo
  simp only [Prod.mk.injEq] at hzz
  obtain ⟨hz0, hz1, hz2⟩ := hzz
  obtain ⟨cs, c1, c2, c3⟩ := hO
  have hbb : (xs.length + ys.length) * bytes ≤ 140737488355328 := Nat.le_trans (Nat.mul_le_mul hb hby) (by decide)
  have key : ∃ v1 w1 σ1, (Builtin.append_ #[st, st] o.type #[v, .slice A ys.length c]).run P w = .ok v1 w1 ∧ Ev t (t + 1) σ w σ1 w1 ∧ Own K e σ1 t w1 v1 (xs ++ ys) := by
    rcases Nat.eq_zero_or_pos ys.length with h0 | h0
    · obtain rfl : ys = [] := List.eq_nil_of_length_eq_zero h0
      refine ⟨v, w, σ, ?_, Ev.refl .., cs, by simpa using c1, c2, by simpa using c3⟩
      rcases c1.2 with ⟨rfl, hn⟩ | ⟨g, cap, cur, rfl, _, _, hnc, _⟩
      · rcases A with _ | ad
        · simp [Builtin.append_, run_underlying ht, sizeOf, typeInfo, hi, Builtin.lenOf, Builtin.firstCells]
        · simp [Builtin.append_, run_underlying ht, sizeOf, typeInfo, hi, Builtin.lenOf, Builtin.firstCells, loadCells, loadCellsFrom]
      · rcases A with _ | ad
        · simp [Builtin.append_, run_underlying ht, sizeOf, typeInfo, hi, Builtin.lenOf, Builtin.firstCells, hnc, storeCells]
        · simp [Builtin.append_, run_underlying ht, sizeOf, typeInfo, hi, Builtin.lenOf, Builtin.firstCells, hnc, storeCells, loadCells, loadCellsFrom]
    · obtain ⟨ad, rfl, hlt, htag, hcell⟩ := hR h0
      obtain ⟨ds, d1, d2⟩ := Rd.cells hcell
      obtain ⟨v1, w1, hr, h2, h3, _, h5⟩ := run_append_own_at (P := P) w 0 st o.type e i0 z K.sz bytes ht hi hz0 hz1 hz2 hz hsz v xs.length cs c1 ad ys.length c ds d1.len d2 d1.one (by simp only [maxLen]; omega) hbb (Nat.zero_le _)
      have hev : Ev t (t + 1) σ w (fun b => if b < w.heap.size then σ b else t) w1 := ev_grown h3 (run_drawn _ hr) (fun g hg => c2 g hg) t
      refine ⟨v1, w1, _, hr, hev, cs ++ ds, by simpa using h2, fun g hg => ?_, (c3.append d1).ev hev h1⟩
      rcases h5 with h5 | h5
      · have hv := c2 g (by rw [← h5]; exact hg)
        by_cases hgs : g < w.heap.size
        · simp [hgs, hv]
        · simp [hgs]
      · rw [h5] at hg
        injection hg with hg
        subst hg
        simp
  obtain ⟨v1, w1, σ1, hr, hev, hown⟩ := key
  refine st_val hw ?_ (k v1 σ1 w1 hev hown)
  simp only [execOp, ho, resolve, invoke, builtin, Sem.run_bind, Sem.run_pure, Result.andThen_ok, List.map_toArray, List.map_cons, List.map_nil, hx, hy, hr]
end

theorem rd_own {α : Type} {K : Kd α} {e : TypeId} {σ : Gh} {t : Nat} {w : World} {A : Option Addr} {n c : Nat} {xs : List α} (h : Own K e σ t w (.slice A n c) xs) : Rd K σ t w A xs := by
  obtain ⟨A', c', he, _, _, hr⟩ := h.rd
  injection he with h1 h2 h3
  rw [h1]; exact hr
theorem Rd.at2 {α : Type} {K : Kd α} {σ : Gh} {t : Nat} {w : World} {A : Option Addr} {xs : List α} (h : Rd K σ t w A xs) (i : Int) (h0 : 0 ≤ i) (h1 : i < xs.length) (d : α) : ∃ ad cs, A = some ad ∧ K.rep σ w (xs.getD i.toNat d) cs ∧
    ∀ j u, cs[j]? = some u → w.cell? ((ad.add (i.toNat * K.sz)).add j) = some u := by
  obtain ⟨ad, cs, e1, _, _, e2, e3⟩ := h.at i h0 h1 d
  exact ⟨ad, cs, e1, e2, fun j u hu => by rw [add_add]; exact e3 j u hu⟩
omit [Dr] in
theorem add_zero (a : Addr) : a.add 0 = a := rfl
omit [Dr] in
theorem cell0 {w : World} {a : Addr} {v : Value} (h : w.cell? (a.add 0) = some v) : w.cell? a = some v := h
omit [Dr] in
theorem idxS {i n : Int} (h : (decide (0 ≤ i) && decide (i < n)) = true) : 0 ≤ i ∧ i < n := by
  simp only [Bool.and_eq_true, decide_eq_true_eq] at h; exact h
omit [Dr] in
theorem chkS {α : Type} {c : Bool} {x : Option α} {r : α} (H : (bif c then x else none) = some r) : c = true ∧ x = some r := by
  cases c
  · cases H
  · exact ⟨rfl, H⟩
omit [Dr] in
theorem inBlock_hit {id : Nat} {Q : Exit → Act → World → Prop} {a : Act} {w : World} (h : Q .normal a w) : Exit.inBlock id Q (.exit id) a w := by
  simp only [Exit.inBlock, if_true]; exact h
omit [Dr] in
theorem inBlock_miss {id id' : Nat} {Q : Exit → Act → World → Prop} {a : Act} {w : World} (hn : id' ≠ id) (h : Q (.exit id') a w) : Exit.inBlock id Q (.exit id') a w := by
  simp only [Exit.inBlock, if_neg hn]; exact h
omit [Dr] in
theorem blk_cell {σ : Gh} {t b : Nat} {w : World} {T : TypeId} {cs : Array Value} (h : Blk σ t w b T cs) (i : Nat) {v : Value} (hv : cs[i]? = some v) : w.cell? ⟨b, i, none⟩ = some v := by rw [h.cell]; exact hv
omit [Dr] in
theorem blk_cells {σ : Gh} {t b : Nat} {w : World} {T : TypeId} {cs : Array Value} (h : Blk σ t w b T cs) (i : Nat) (vs : List Value) (hv : (cs.toList.drop i).take vs.length = vs) : ∀ j v, vs[j]? = some v → w.cell? ((⟨b, i, none⟩ : Addr).add j) = some v := by
  intro j v hj
  rw [add_mk, h.cell]
  have hl := (List.getElem?_eq_some_iff.1 hj).1
  rw [← hv, List.getElem?_take] at hj
  rw [if_pos hl] at hj
  simpa [List.getElem?_drop] using hj
end Go.Vk
