/- The abstract machine, part 17: stores into the elements of rows. No statement of its own. -/
import Derived.Test.YtfhcockdlfidmaaAm6
namespace Go.Am
open Go.Vk Go.RowKit
set_option linter.unusedVariables false
set_option linter.unusedSimpArgs false
variable [Dr]

theorem reps_at {α : Type} {K : Kd α} {σ : Gh} {w : World} : ∀ {xs : List α} {cs : List Value} {i : Nat} (hi : i < xs.length), Reps K σ w xs cs → ∃ pre c post, cs = pre ++ c ++ post ∧ pre.length = i * K.sz ∧ K.rep σ w xs[i] c ∧ ∀ (y : α) (c' : List Value), K.rep σ w y c' → Reps K σ w (xs.set i y) (pre ++ c' ++ post)
  | [], cs, i, hi, _ => by simp at hi
  | x :: xs, cs, 0, hi, h => by
    obtain ⟨c, r, h1, h2, h3⟩ := h
    exact ⟨[], c, r, by simpa using h1, by simp, h2, fun y c' hy => ⟨c', r, by simp, hy, h3⟩⟩
  | x :: xs, cs, i + 1, hi, h => by
    obtain ⟨c, r, h1, h2, h3⟩ := h
    obtain ⟨pre, d, post, e1, e2, e3, e4⟩ := reps_at (i := i) (by simpa using hi) h3
    refine ⟨c ++ pre, d, post, by rw [h1, e1]; simp, ?_, by simpa using e3, fun y c' hy => ⟨c, pre ++ c' ++ post, by simp, h2, e4 y c' hy⟩⟩
    rw [List.length_append, K.len h2, e2, Nat.add_mul]; omega
omit [Dr] in
theorem putCells_toList : ∀ (us : List Value) (i : Nat) (vs : Array Value), (putCells vs i us).toList = (us.foldl (fun (p : List Value × Nat) u => (p.1.set p.2 u, p.2 + 1)) (vs.toList, i)).1
  | [], i, vs => rfl
  | u :: us, i, vs => by
    simp only [putCells, List.foldl_cons]
    rw [putCells_toList us (i + 1) (vs.setIfInBounds i u)]
    simp
omit [Dr] in
theorem foldSet_app (pre post : List Value) : ∀ (us : List Value) (off : Nat) (c : List Value), off + us.length ≤ c.length →
    (us.foldl (fun (p : List Value × Nat) u => (p.1.set p.2 u, p.2 + 1)) (pre ++ c ++ post, pre.length + off)).1 = pre ++ (us.foldl (fun (p : List Value × Nat) u => (p.1.set p.2 u, p.2 + 1)) (c, off)).1 ++ post
  | [], off, c, _ => rfl
  | u :: us, off, c, h => by
    simp only [List.foldl_cons]
    have h1 : (pre ++ c ++ post).set (pre.length + off) u = pre ++ (c.set off u) ++ post := by
      rw [List.append_assoc, List.set_append_right _ _ (by omega), Nat.add_sub_cancel_left, List.set_append_left _ _ (by simp at h; omega), List.append_assoc]
    rw [h1, Nat.add_assoc]
    exact foldSet_app pre post us (off + 1) (c.set off u) (by simp at h ⊢; omega)
omit [Dr] in
theorem foldSet_len : ∀ (us : List Value) (off : Nat) (c : List Value), (us.foldl (fun (p : List Value × Nat) u => (p.1.set p.2 u, p.2 + 1)) (c, off)).1.length = c.length
  | [], _, _ => rfl
  | u :: us, off, c => by simp only [List.foldl_cons]; rw [foldSet_len us]; simp

/-- An element of a row of its own, written. -/
theorem own_store {α : Type} {P : Program} {K : Kd α} {e : TypeId} {σ : Gh} {t : Nat} {w : World} {ad : Addr} {n c0 : Nat} {xs : List α} {i off : Nat} {y : α} {us : List Value} (h : Own K e σ t w (.slice (some ad) n c0) xs) (hi : i < xs.length) (hl : off + us.length ≤ K.sz) (h1 : ∀ v ∈ us, v.oneCell' = true)
    (hr : ∀ c, K.rep σ w xs[i] c → K.rep σ w y (putCells c.toArray off us).toList) (ht : 1 ≤ t) :
    ∃ w', (storeCells (ad.add (i * K.sz + off)) us 0).run P w = .ok () w' ∧ Ev t (t + 1) σ w σ w' ∧ Own K e σ t w' (.slice (some ad) n c0) (xs.set i y) := by
  obtain ⟨cs, o1, o2, o3⟩ := h
  have hn := o1.1
  rcases o1.2 with ⟨hv, hz⟩ | ⟨g, cap, cur, hv, hb, hh, hnc, hcm, hcz, htk⟩
  · injection hv with hv; cases hv
  injection hv with hv1 hv2 hv3
  injection hv1 with hv1
  subst hv1 hv2 hv3
  have hg := o2 g (by simp [Value.ownBlock])
  have hB : Blk σ t w g e cur := ⟨hg, hh⟩
  obtain ⟨pre, c, post, e1, e2, e3, e4⟩ := reps_at hi o3
  have hc := K.len e3
  have hcs : cs.length = xs.length * K.sz := hn
  have hpl : pre.length + c.length + post.length = xs.length * K.sz := by rw [← hcs, e1]; simp; omega
  have hcur : xs.length * K.sz ≤ cur.size := by rw [hcz]; exact Nat.mul_le_mul_right _ hnc
  have had : (⟨g, 0, none⟩ : Addr).add (i * K.sz + off) = ⟨g, i * K.sz + off, none⟩ := by rw [add_mk, Nat.zero_add]
  obtain ⟨w', r1, r2, r3⟩ := run_storeCells_blk (P := P) (i * K.sz + off) us 0 cur w hB (by omega) h1
  refine ⟨w', by rw [had]; exact r1, r2, pre ++ (putCells c.toArray off us).toList ++ post, ⟨?_, .inr ⟨g, c0, putCells cur (i * K.sz + off) us, by simp, hb, by simpa using r3.2, by simpa using hnc, hcm, ?_, ?_⟩⟩, fun g' hg' => ?_, ?_⟩
  · have : (putCells c.toArray off us).toList.length = c.length := by rw [putCells_toList, foldSet_len]
    simp only [List.length_append, List.length_set, this]
    omega
  · have : (putCells cur (i * K.sz + off) us).size = cur.size := by
      rw [← Array.length_toList, putCells_toList, foldSet_len, Array.length_toList]
    rw [this, hcz]
  · rw [putCells_toList, putCells_toList]
    have hsplit : cur.toList = pre ++ c ++ (post ++ cur.toList.drop (xs.length * K.sz)) := by
      have : cur.toList = cur.toList.take (xs.length * K.sz) ++ cur.toList.drop (xs.length * K.sz) := (List.take_append_drop _ _).symm
      refine this.trans ?_
      rw [htk, e1]; simp
    rw [hsplit, ← e2, foldSet_app pre _ us off c (by omega)]
    have hlen : (pre ++ (us.foldl (fun (p : List Value × Nat) u => (p.1.set p.2 u, p.2 + 1)) (c, off)).1 ++ post).length = xs.length * K.sz := by
      simp only [List.length_append, foldSet_len]; omega
    rw [← List.append_assoc, List.length_set, List.take_left' hlen]
  · simp only [Value.ownBlock, Option.some.injEq] at hg'
    subst hg'; exact hg
  · exact (e4 y _ (hr c e3)).ev r2 ht

section
variable {P : Program} {E : Env} {σ σ1 : Gh} {τ : Nat → Nat} {w w1 : World} {β : List Value} {tm : List AV} {H : List AB} {a : Act} {o : Oper}
def storeR (P : Program) (H : List AB) (t : TypeId) (x v : AV) : Option (List AB) :=
  match x with
  | .rp r sz i off => match H[r]?, cellsA v with
    | some (.row T e xs), some ds => match Nat.beq sz T.sz, (P.info? t).map (fun i => Nat.beq i.size ds.length), Nat.ble (off + ds.length) T.sz, dec T (putA (enc T (xs.getD i (Ty.dfl T))) off ds) with
      | true, some true, true, some (y, []) => some (H.set r (.row T e (xs.set i y)))
      | _, _, _, _ => none
    | _, _ => none
  | _ => none
theorem storeR_sound {t : TypeId} {x y : Operand} {H' : List AB} (hC : Conc E σ τ β ⟨tm, H⟩ a w) (ho : o.op = .store t x y) (h : storeR P H t (aeval tm x) (aeval tm y) = some H') : OpOut P E σ β tm a w o H' .unk := by
  have hx := aeval_rel hC x
  have hy := aeval_rel hC y
  cases hv : aeval tm x with
  | rp r sz i off =>
    rw [hv] at h
    have hx : Rel E σ w β (.rp r sz i off) (a.eval x) := hv ▸ hx
    simp only [storeR] at h
    split at h
    · rename_i T e xs ds hr hd
      split at h
      · rename_i y1 hsz hti hle hdec
        simp only [Option.some.injEq] at h
        subst h
        have hsz := Nat.eq_of_beq_eq_true hsz
        subst hsz
        obtain ⟨ti, hti, hbeq⟩ := Option.map_eq_some_iff.1 hti
        have hle := Nat.le_of_ble_eq_true hle
        have hbeq := Nat.eq_of_beq_eq_true hbeq
        simp only [Rel] at hx
        obtain ⟨ad, n, c, g1, g2, g3⟩ := hx
        have hO : Own T.kd e σ (τ r) w (.slice (some ad) n c) xs := hC.heap r _ _ hr g1
        obtain ⟨A, c', k1, k2, _, _⟩ := hO.rd
        injection k1 with _ k1 _
        subst k1
        obtain ⟨d1, d2⟩ := cellsA_rel hy hd
        have l2 := d1.length
        have hP := hC.apart r _ hr rfl
        have hget : xs.getD i (Ty.dfl T) = xs[i] := by rw [List.getD_eq_getElem?_getD, List.getElem?_eq_getElem g2]; rfl
        rw [hget] at hdec
        obtain ⟨w', r1, r2, r3⟩ := own_store (P := P) (y := y1) (us := (a.eval y).cells.toList) (off := off) hO g2 (by rw [l2]; exact hle) d2 (fun cs hcs => by
          have h1 := putA_rel (E := E) (β := β) off (cs := enc T xs[i]) (vs := cs.toArray) (by simpa using enc_rel T hcs) d1
          obtain ⟨c1, c2, e1, e2, e3⟩ := dec_rel T hdec h1
          simp only [RelL] at e3
          subst e3
          rw [List.append_nil] at e1
          rw [e1]; exact e2) (tag_pos hP)
        have hev : EvT (fun t => t = τ r) σ w σ w' := EvT.of r2 (fun t h1 h2 => by omega)
        refine OpGives.unit σ ?_ ⟨τ, β, ⟨[], by simp⟩, hev.mono (fun t h hp => hP (h ▸ hp)), Conc.put hC hr rfl g1 hev r3, by simp [Rel]⟩
        have hcells : (a.eval y).cells = (a.eval y).cells.toList.toArray := by simp
        have hl : (a.eval y).cells.size = ti.size := by rw [← Array.length_toList, l2, hbeq]
        have r1 : (storeCells (ad.add (i * T.sz + off)) (a.eval y).cells.toList 0).run P w = .ok () w' := r1
        simp [execOp, ho, Instr.storeAt, g3, Instr.sureAddr, storeVar, sizeOf, typeInfo, hti, hl, r1]
      · cases h
    · cases h
  | _ => rw [hv] at h; simp [storeR] at h
omit [Dr] in
theorem storeR_pres {t : TypeId} {x v : AV} {H' : List AB} (h : storeR P H t x v = some H') : HPres H H' := by
  unfold storeR at h
  split at h
  · split at h
    · rename_i T e xs ds hb hd
      split at h
      · simp only [Option.some.injEq] at h
        subst h
        exact .set hb (fun b => by simp)
      · cases h
    · cases h
  · cases h
end
end Go.Am
