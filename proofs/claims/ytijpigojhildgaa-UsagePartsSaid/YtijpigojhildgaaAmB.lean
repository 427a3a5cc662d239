/- The abstract machine, part 17: stores into the elements of rows. No statement of its own. -/
import Derived.Test.YtijpigojhildgaaAmA
import Derived.Laws.BytesString
namespace Go.Am
open Go.Vk Go.RowKit
set_option linter.unusedVariables false
set_option linter.unusedSimpArgs false
variable [Dr]

theorem reps_at {α : Type} {K : Kd α} {σ : Gh} {w : World} : ∀ {xs : List α} {cs : List Value} {i : Nat} (hi : i < xs.length), Reps K σ w xs cs → ∃ pre c post, cs = pre ++ c ++ post ∧ pre.length = i * K.sz ∧ K.rep σ w xs[i] c ∧ ∀ (y : α) (c' : List Value), K.rep σ w y c' → Reps K σ w (xs.set i y) (pre ++ c' ++ post)
  | [], cs, i, hi, _ => by simp at hi
  | x :: xs, cs, 0, hi, h => by
    obtain ⟨c, r, h1, h2, h3⟩ := h
    exact ⟨[], c, r, by simpa using h1, by simp, h2, fun y c' hy => ⟨c', r, by simp, hy, h3⟩⟩
  | x :: xs, cs, i + 1, hi, h => by
    obtain ⟨c, r, h1, h2, h3⟩ := h
    obtain ⟨pre, d, post, e1, e2, e3, e4⟩ := reps_at (i := i) (by simpa using hi) h3
    refine ⟨c ++ pre, d, post, by rw [h1, e1]; simp, ?_, by simpa using e3, fun y c' hy => ⟨c, pre ++ c' ++ post, by simp, h2, e4 y c' hy⟩⟩
    rw [List.length_append, K.len h2, e2, Nat.add_mul]; omega
omit [Dr] in
theorem putCells_toList : ∀ (us : List Value) (i : Nat) (vs : Array Value), (putCells vs i us).toList = (us.foldl (fun (p : List Value × Nat) u => (p.1.set p.2 u, p.2 + 1)) (vs.toList, i)).1
  | [], i, vs => rfl
  | u :: us, i, vs => by
    simp only [putCells, List.foldl_cons]
    rw [putCells_toList us (i + 1) (vs.setIfInBounds i u)]
    simp
omit [Dr] in
theorem foldSet_app (pre post : List Value) : ∀ (us : List Value) (off : Nat) (c : List Value), off + us.length ≤ c.length →
    (us.foldl (fun (p : List Value × Nat) u => (p.1.set p.2 u, p.2 + 1)) (pre ++ c ++ post, pre.length + off)).1 = pre ++ (us.foldl (fun (p : List Value × Nat) u => (p.1.set p.2 u, p.2 + 1)) (c, off)).1 ++ post
  | [], off, c, _ => rfl
  | u :: us, off, c, h => by
    simp only [List.foldl_cons]
    have h1 : (pre ++ c ++ post).set (pre.length + off) u = pre ++ (c.set off u) ++ post := by
      rw [List.append_assoc, List.set_append_right _ _ (by omega), Nat.add_sub_cancel_left, List.set_append_left _ _ (by simp at h; omega), List.append_assoc]
    rw [h1, Nat.add_assoc]
    exact foldSet_app pre post us (off + 1) (c.set off u) (by simp at h ⊢; omega)
omit [Dr] in
theorem foldSet_len : ∀ (us : List Value) (off : Nat) (c : List Value), (us.foldl (fun (p : List Value × Nat) u => (p.1.set p.2 u, p.2 + 1)) (c, off)).1.length = c.length
  | [], _, _ => rfl
  | u :: us, off, c => by simp only [List.foldl_cons]; rw [foldSet_len us]; simp

/-- An element of a row of its own, written. -/
theorem own_store {α : Type} {P : Program} {K : Kd α} {e : TypeId} {σ : Gh} {t : Nat} {w : World} {ad : Addr} {n c0 : Nat} {xs : List α} {i off : Nat} {y : α} {us : List Value} (h : Own K e σ t w (.slice (some ad) n c0) xs) (hi : i < xs.length) (hl : off + us.length ≤ K.sz) (h1 : ∀ v ∈ us, v.oneCell' = true)
    (hr : ∀ c, K.rep σ w xs[i] c → K.rep σ w y (putCells c.toArray off us).toList) (ht : 1 ≤ t) :
    ∃ w', (storeCells (ad.add (i * K.sz + off)) us 0).run P w = .ok () w' ∧ Ev t (t + 1) σ w σ w' ∧ Own K e σ t w' (.slice (some ad) n c0) (xs.set i y) := by
  obtain ⟨cs, o1, o2, o3⟩ := h
  have hn := o1.1
  rcases o1.2 with ⟨hv, hz⟩ | ⟨g, cap, cur, hv, hb, hh, hnc, hcm, hcz, htk⟩
  · injection hv with hv; cases hv
  injection hv with hv1 hv2 hv3
  injection hv1 with hv1
  subst hv1 hv2 hv3
  have hg := o2 g (by simp [Value.ownBlock])
  have hB : Blk σ t w g e cur := ⟨hg, hh⟩
  obtain ⟨pre, c, post, e1, e2, e3, e4⟩ := reps_at hi o3
  have hc := K.len e3
  have hcs : cs.length = xs.length * K.sz := hn
  have hpl : pre.length + c.length + post.length = xs.length * K.sz := by rw [← hcs, e1]; simp; omega
  have hcur : xs.length * K.sz ≤ cur.size := by rw [hcz]; exact Nat.mul_le_mul_right _ hnc
  have had : (⟨g, 0, none⟩ : Addr).add (i * K.sz + off) = ⟨g, i * K.sz + off, none⟩ := by rw [add_mk, Nat.zero_add]
  obtain ⟨w', r1, r2, r3⟩ := run_storeCells_blk (P := P) (i * K.sz + off) us 0 cur w hB (by omega) h1
  refine ⟨w', by rw [had]; exact r1, r2, pre ++ (putCells c.toArray off us).toList ++ post, ⟨?_, .inr ⟨g, c0, putCells cur (i * K.sz + off) us, by simp, hb, by simpa using r3.2, by simpa using hnc, hcm, ?_, ?_⟩⟩, fun g' hg' => ?_, ?_⟩
  · have : (putCells c.toArray off us).toList.length = c.length := by rw [putCells_toList, foldSet_len]
    simp only [List.length_append, List.length_set, this]
    omega
  · have : (putCells cur (i * K.sz + off) us).size = cur.size := by
      rw [← Array.length_toList, putCells_toList, foldSet_len, Array.length_toList]
    rw [this, hcz]
  · rw [putCells_toList, putCells_toList]
    have hsplit : cur.toList = pre ++ c ++ (post ++ cur.toList.drop (xs.length * K.sz)) := by
      have : cur.toList = cur.toList.take (xs.length * K.sz) ++ cur.toList.drop (xs.length * K.sz) := (List.take_append_drop _ _).symm
      refine this.trans ?_
      rw [htk, e1]; simp
    rw [hsplit, ← e2, foldSet_app pre _ us off c (by omega)]
    have hlen : (pre ++ (us.foldl (fun (p : List Value × Nat) u => (p.1.set p.2 u, p.2 + 1)) (c, off)).1 ++ post).length = xs.length * K.sz := by
      simp only [List.length_append, foldSet_len]; omega
    rw [← List.append_assoc, List.length_set, List.take_left' hlen]
  · simp only [Value.ownBlock, Option.some.injEq] at hg'
    subst hg'; exact hg
  · exact (e4 y _ (hr c e3)).ev r2 ht

section
variable {P : Program} {E : Env} {σ σ1 : Gh} {τ : Nat → Nat} {w w1 : World} {β : List Value} {tm : List AV} {H : List AB} {a : Act} {o : Oper}
def storeR (P : Program) (H : List AB) (t : TypeId) (x v : AV) : Option (List AB) :=
  match x with
  | .rp r sz i off => match H[r]?, cellsA v with
    | some (.row T e xs), some ds => match Nat.beq sz T.sz, (P.info? t).map (fun i => Nat.beq i.size ds.length), Nat.ble (off + ds.length) T.sz, dec T (putA (enc T (xs.getD i (Ty.dfl T))) off ds) with
      | true, some true, true, some (y, []) => some (H.set r (.row T e (xs.set i y)))
      | _, _, _, _ => none
    | _, _ => none
  | _ => none
theorem storeR_sound {t : TypeId} {x y : Operand} {H' : List AB} (hC : Conc E σ τ β ⟨tm, H⟩ a w) (ho : o.op = .store t x y) (h : storeR P H t (aeval tm x) (aeval tm y) = some H') : OpOut P E σ β tm a w o H' .unk := by
  have hx := aeval_rel hC x
  have hy := aeval_rel hC y
  cases hv : aeval tm x with
  | rp r sz i off =>
    rw [hv] at h
    have hx : Rel E σ w β (.rp r sz i off) (a.eval x) := hv ▸ hx
    simp only [storeR] at h
    split at h
    · rename_i T e xs ds hr hd
      split at h
      · rename_i y1 hsz hti hle hdec
        simp only [Option.some.injEq] at h
        subst h
        have hsz := Nat.eq_of_beq_eq_true hsz
        subst hsz
        obtain ⟨ti, hti, hbeq⟩ := Option.map_eq_some_iff.1 hti
        have hle := Nat.le_of_ble_eq_true hle
        have hbeq := Nat.eq_of_beq_eq_true hbeq
        simp only [Rel] at hx
        obtain ⟨ad, n, c, g1, g2, g3⟩ := hx
        have hO : Own T.kd e σ (τ r) w (.slice (some ad) n c) xs := hC.heap r _ _ hr g1
        obtain ⟨A, c', k1, k2, _, _⟩ := hO.rd
        injection k1 with _ k1 _
        subst k1
        obtain ⟨d1, d2⟩ := cellsA_rel hy hd
        have l2 := d1.length
        have hP := hC.apart r _ hr rfl
        have hget : xs.getD i (Ty.dfl T) = xs[i] := by rw [List.getD_eq_getElem?_getD, List.getElem?_eq_getElem g2]; rfl
        rw [hget] at hdec
        obtain ⟨w', r1, r2, r3⟩ := own_store (P := P) (y := y1) (us := (a.eval y).cells.toList) (off := off) hO g2 (by rw [l2]; exact hle) d2 (fun cs hcs => by
          have h1 := putA_rel (E := E) (β := β) off (cs := enc T xs[i]) (vs := cs.toArray) (by simpa using enc_rel T hcs) d1
          obtain ⟨c1, c2, e1, e2, e3⟩ := dec_rel T hdec h1
          simp only [RelL] at e3
          subst e3
          rw [List.append_nil] at e1
          rw [e1]; exact e2) (tag_pos hP)
        have hev : EvT (fun t => t = τ r) σ w σ w' := EvT.of r2 (fun t h1 h2 => by omega)
        refine OpGives.unit σ ?_ ⟨τ, β, ⟨[], by simp⟩, hev.mono (fun t h hp => hP (h ▸ hp)), Conc.put hC hr rfl g1 hev r3, by simp [Rel]⟩
        have hcells : (a.eval y).cells = (a.eval y).cells.toList.toArray := by simp
        have hl : (a.eval y).cells.size = ti.size := by rw [← Array.length_toList, l2, hbeq]
        have r1 : (storeCells (ad.add (i * T.sz + off)) (a.eval y).cells.toList 0).run P w = .ok () w' := r1
        simp [execOp, ho, Instr.storeAt, g3, Instr.sureAddr, storeVar, sizeOf, typeInfo, hti, hl, r1]
      · cases h
    · cases h
  | _ => rw [hv] at h; simp [storeR] at h
omit [Dr] in
theorem storeR_pres {t : TypeId} {x v : AV} {H' : List AB} (h : storeR P H t x v = some H') : HPres H H' := by
  unfold storeR at h
  split at h
  · split at h
    · rename_i T e xs ds hb hd
      split at h
      · simp only [Option.some.injEq] at h
        subst h
        exact .set hb (fun b => by simp)
      · cases h
    · cases h
  · cases h
end
end Go.Am

/- The abstract machine, part 18: a byte of a known string, a number of an array that is a value. No statement of its own. -/
namespace Go.Am
open Go.Vk Go.RowKit
set_option linter.unusedVariables false
set_option linter.unusedSimpArgs false
variable [Dr]

/-- all cells, as numbers of a kind -/
def cellsK (k : IntKind) : List AV → Option (List Int)
  | [] => some []
  | .val (.int k' x) :: l => match kindEq k' k, cellsK k l with
    | some _, some xs => some (x :: xs)
    | _, _ => none
  | _ :: _ => none
def aggA : AV → Option (List AV)
  | .agg cs => some cs
  | .val (.agg vs) => some (vs.toList.map .val)
  | _ => none
/-- 'x[i]' of a value: whether it is there, and it -/
def indexV (P : Program) (o : Oper) (ρ : Operand → AV) : Option (Bool × Value) :=
  match o.op with
  | .index t x i => match P.underlying t, ρ i with
    | some .string, .val (.int _ n) => match ρ x with
      | .val (.string s) => some (decide (0 ≤ n) && decide (n < (s.size : Int)), .int .u8 ((s.get! n.toNat).toNat : Int))
      | _ => none
    | some (.array m e), .val (.int _ n) => match P.underlying e, aggA (ρ x), (P.info? e).map (fun i => Nat.beq i.size 1) with
      | some (.int k), some cs, some true => match cellsK k cs with
        | some xs => some (decide (0 ≤ n) && (decide (n < (m : Int)) && decide (n < (xs.length : Int))), .int k (xs.getD n.toNat 0))
        | none => none
      | _, _, _ => none
    | _, _ => none
  | _ => none
section
variable {P : Program} {E : Env} {σ σ1 : Gh} {τ : Nat → Nat} {w w1 : World} {β : List Value} {tm : List AV} {H : List AB} {a : Act} {o : Oper}
theorem cellsK_rel {k : IntKind} : ∀ {cs : List AV} {xs : List Int} {us : List Value}, cellsK k cs = some xs → RelL E σ w β cs us → us = xs.map (.int k)
  | [], xs, us, h, hr => by
    simp only [cellsK, Option.some.injEq] at h
    simp only [RelL] at hr
    subst h hr; rfl
  | c :: cs, xs, us, h, hr => by
    simp only [RelL] at hr
    obtain ⟨v, r, rfl, h2, h3⟩ := hr
    unfold cellsK at h
    split at h
    · rename_i heq; cases heq
    · rename_i k' x l heq
      injection heq with e1 e2
      subst e1 e2
      split at h
      · rename_i pk ys _ hys
        obtain ⟨hk⟩ := pk
        subst hk
        obtain rfl := Option.some.inj h
        simp only [Rel] at h2
        rw [h2, cellsK_rel hys h3]; rfl
      · cases h
    · cases h
theorem aggA_rel {x : AV} {u : Value} {cs : List AV} (h : aggA x = some cs) (hr : Rel E σ w β x u) : ∃ vs, u = .agg (List.toArray vs) ∧ RelL E σ w β cs vs := by
  unfold aggA at h
  split at h
  · obtain rfl := Option.some.inj h
    simpa [Rel] using hr
  · rename_i vs
    obtain rfl := Option.some.inj h
    simp only [Rel] at hr
    exact ⟨vs.toList, by simpa using hr, relL_vals _⟩
  · cases h
theorem indexV_sound {v : Value} (hC : Conc E σ τ β ⟨tm, H⟩ a w) (h : indexV P o (aeval tm) = some (true, v)) : OpOut P E σ β tm a w o H (.val v) := by
  unfold indexV at h
  split at h
  case h_2 => cases h
  rename_i t x i ho
  have hx := aeval_rel hC x
  have hi := aeval_rel hC i
  split at h
  · rename_i kk n hu hin
    have hi : a.eval i = .int kk n := by
      have : Rel E σ w β (.val (.int kk n)) (a.eval i) := hin ▸ hi
      simpa only [Rel] using this
    split at h
    · rename_i s hxs
      have hx : a.eval x = .string s := by
        have : Rel E σ w β (.val (.string s)) (a.eval x) := hxs ▸ hx
        simpa only [Rel] using this
      simp only [Option.some.injEq, Prod.mk.injEq, Bool.and_eq_true, decide_eq_true_eq] at h
      obtain ⟨⟨h0, h1⟩, rfl⟩ := h
      have hlt : n.toNat < s.size := by omega
      refine OpOut.same hC (v := .int .u8 ((s.get! n.toNat).toNat : Int)) ?_ (by simp [Rel])
      have hg : s[n.toNat]? = some (s.get! n.toNat) := by
        rw [getElem?_pos s n.toNat hlt]
        congr 1
        show s.data[n.toNat] = s.data[n.toNat]!
        rw [getElem!_pos]
      simp [execOp, ho, Instr.index, hx, hi, asIntOf, run_underlying hu, h0, hg]
    · cases h
  · rename_i m e kk n hu hin
    have hi : a.eval i = .int kk n := by
      have : Rel E σ w β (.val (.int kk n)) (a.eval i) := hin ▸ hi
      simpa only [Rel] using this
    split at h
    · rename_i k cs he hcs hsz
      split at h
      · rename_i xs hxs
        simp only [Option.some.injEq, Prod.mk.injEq, Bool.and_eq_true, decide_eq_true_eq] at h
        obtain ⟨⟨h0, h1, h2⟩, rfl⟩ := h
        obtain ⟨vs, e1, e2⟩ := aggA_rel hcs hx
        have hvs := cellsK_rel hxs e2
        obtain ⟨ti, hti, hb⟩ := Option.map_eq_some_iff.1 hsz
        have hb := Nat.eq_of_beq_eq_true hb
        refine OpOut.same hC (v := .int k (xs.getD n.toNat 0)) ?_ (by simp [Rel])
        have hg : vs[n.toNat]? = some (.int k (xs.getD n.toNat 0)) := by
          rw [hvs, List.getElem?_map, List.getD_eq_getElem?_getD, List.getElem?_eq_getElem (by omega)]; rfl
        have hag : (isAgg e).run P w = .ok false w := by simp [isAgg, run_underlying he]
        simp [execOp, ho, Instr.index, e1, hi, asIntOf, run_underlying hu, h0, h1, sizeOf, typeInfo, hti, hb, part, hag, hg]
      · cases h
    · cases h
  · cases h
end
end Go.Am

/- The abstract machine, part 22: maps. No statement of its own. -/
namespace Go.Am
open Go.Vk Go.RowKit
set_option linter.unusedVariables false
set_option linter.unusedSimpArgs false
variable [Dr]

def encA (ag : Bool) (T : Ty) (x : T.Den) : AV :=
  match ag with
  | true => .agg ((encF T x).map .val)
  | false => ((encF T x).map .val).headD .unk
def wholeD {α : Type} (o : Option (α × List AV)) : Option α :=
  match o with
  | some (x, []) => some x
  | _ => none
def resA (ok : Bool) (x : AV) (h : Bool) : AV :=
  match ok with
  | false => x
  | true => .tup [x, .val (.bool h)]
def resV (ok : Bool) (x : Value) (h : Bool) : Value :=
  match ok with
  | false => x
  | true => .tuple #[x, .bool h]
/-- A value of a flat type. -/
def decF (ag : Bool) (T : Ty) (x : AV) : Option T.Den :=
  match flatT T with
  | true => match ag with
    | true => match x with
      | .agg cs => wholeD (dec T cs)
      | .val (.agg vs) => wholeD (dec T (vs.toList.map .val))
      | _ => none
    | false => wholeD (dec T [x])
  | false => none
def zeroM (P : Program) (m : MTy) : Option m.V.Den :=
  match (P.info? m.vt).bind (·.zero) with
  | some (.agg cs) => match m.va with
    | true => decF true m.V (.val (.agg cs))
    | false => none
  | some z => match m.va with
    | true => none
    | false => decF false m.V (.val z)
  | none => none
/-- A known map, of the type that an operation names. -/
def mapX (P : Program) (t : TypeId) : Option AB → Option ((m : MTy) × Mp m.K m.V)
  | some (.map m xs) => match P.underlying t with
    | some (.map kt vt) => match Nat.beq kt m.kt && (Nat.beq vt m.vt && (keyB P m.ka m.kt m.K && flatT m.V)) with
      | true => some ⟨m, xs⟩
      | false => none
    | _ => none
  | _ => none
def lookupX (P : Program) (H : List AB) (t : TypeId) (x k : AV) (ok : Bool) : Option AV :=
  match x with
  | .map b => match mapX P t (look H b) with
    | some ⟨m, xs⟩ => match decF m.ka m.K k, zeroM P m with
      | some key, some z => some (resA ok (encA m.va m.V ((mget m.K m.V xs key).getD z)) (mget m.K m.V xs key).isSome)
      | _, _ => none
    | none => none
  | _ => none
def updX (P : Program) (H : List AB) (t : TypeId) (x k v : AV) : Option (List AB) :=
  match x with
  | .map b => match mapX P t H[b]? with
    | some ⟨m, xs⟩ => match decF m.ka m.K k, decF m.va m.V v with
      | some key, some y => some (H.set b (.map m (mset m.K m.V xs key y)))
      | _, _ => none
    | none => none
  | _ => none
def entryX (P : Program) (H : List AB) (t : TypeId) (x k : AV) : Option (List AB × AV) :=
  match x with
  | .map b => match mapX P t H[b]? with
    | some ⟨m, xs⟩ => match decF m.ka m.K k, zeroM P m with
      | some key, some z => some (H.set b (.map m (mset m.K m.V xs key ((mget m.K m.V xs key).getD z))), .tup [encA m.va m.V ((mget m.K m.V xs key).getD z), .val (.int .i64 (mpos m.K m.V xs key))])
      | _, _ => none
    | none => none
  | _ => none
/-- (what must hold, what is there then) -/
def estoreX (P : Program) (H : List AB) (t : TypeId) (x s v : AV) : Option (Bool × List AB) :=
  match x, s with
  | .map b, .val (.int .i64 n) => match mapX P t H[b]? with
    | some ⟨m, xs⟩ => match decF m.va m.V v with
      | some y => some (decide (0 ≤ n) && mhas m.K m.V xs n.toNat, H.set b (.map m (mput m.K m.V xs n.toNat y)))
      | none => none
    | none => none
  | _, _ => none
def delX (P : Program) (H : List AB) (t : TypeId) (x k : AV) : Option (List AB) :=
  match x with
  | .map b => match mapX P t H[b]? with
    | some ⟨m, xs⟩ => match decF m.ka m.K k with
      | some key => some (H.set b (.map m (mdel m.K m.V xs key)))
      | none => none
    | none => none
  | _ => none
def mlenX (P : Program) (H : List AB) (t : TypeId) (x : AV) : Option AV :=
  match x with
  | .map b => match mapX P t (look H b) with
    | some ⟨m, xs⟩ => some (.val (.int .i64 (mlen m.K m.V xs)))
    | none => none
  | _ => none
def makeX (P : Program) (t : TypeId) : Option MTy :=
  match P.underlying t with
  | some (.map kt vt) => match tyOf P 30 kt, tyOf P 30 vt with
    | some K, some V => some ⟨kt, vt, aggB P kt, K, aggB P vt, V⟩
    | _, _ => none
  | _ => none

section
variable {P : Program} {E : Env} {σ σ1 : Gh} {τ : Nat → Nat} {w w1 : World} {β : List Value} {tm : List AV} {H : List AB} {a : Act} {o : Oper}
theorem encA_rel {ag : Bool} {T : Ty} {x : T.Den} : Rel E σ w β (encA ag T x) (valF ag T x) := by
  unfold encA valF
  cases ag with
  | true => simp only [Rel]; exact ⟨encF T x, rfl, relL_vals _⟩
  | false =>
    cases h : encF T x with
    | nil => simp [Rel]
    | cons v l => simp [Rel]
omit [Dr] in
theorem wholeD_some {T : Ty} {l : List AV} {x : T.Den} (h : wholeD (dec T l) = some x) : dec T l = some (x, []) := by
  unfold wholeD at h
  split at h
  · rename_i y hy; obtain rfl := Option.some.inj h; exact hy
  · cases h
theorem decF_rel {ag : Bool} {T : Ty} {av : AV} {x : T.Den} {u : Value} (h : decF ag T av = some x) (hr : Rel E σ w β av u) : flatT T = true ∧ u = valF ag T x := by
  unfold decF at h
  split at h
  case h_2 => cases h
  rename_i hf
  refine ⟨hf, ?_⟩
  have key : ∀ {l : List AV} {us : List Value}, wholeD (dec T l) = some x → RelL E σ w β l us → us = encF T x := by
    intro l us h1 h2
    obtain ⟨c, d, rfl, h3, h4⟩ := dec_rel T (wholeD_some h1) h2
    simp only [RelL] at h4
    subst h4
    rw [List.append_nil]
    exact (rep_flat T x c hf).1 h3
  cases ag with
  | true =>
    simp only at h
    split at h
    · rename_i cs
      simp only [Rel] at hr
      obtain ⟨vs, rfl, h2⟩ := hr
      simp only [valF]
      rw [key h h2]
    · rename_i vs
      simp only [Rel] at hr
      subst hr
      have := key h (relL_vals (E := E) (σ := σ) (w := w) (β := β) vs.toList)
      simp only [valF]
      rw [← this]
    · cases h
  | false =>
    simp only at h
    have := key h (us := [u]) (by simp only [RelL]; exact ⟨u, [], rfl, hr, rfl⟩)
    simp only [valF]
    rw [← this]
    rfl
omit [Dr] in
theorem zeroM_run [Dr] {m : MTy} {d : m.V.Den} (h : zeroM P m = some d) : (zeroValue m.vt).run P w = .ok (valF m.va m.V d) w := by
  unfold zeroM at h
  have fin : ∀ {z : Value}, (P.info? m.vt).bind (·.zero) = some z → decF m.va m.V (.val z) = some d → (zeroValue m.vt).run P w = .ok (valF m.va m.V d) w := by
    intro z hz hd
    obtain ⟨_, rfl⟩ := decF_rel (E := ⟨fun t => t = 0, fun _ => False, fun t => t < 2, 2, rfl, fun t h => by rcases h with rfl | h; omega; exact h.elim, fun t h => h⟩) (σ := fun _ => 0) (w := w) (β := []) (u := z) hd (by simp [Rel])
    obtain ⟨i, hi, hzz⟩ := Option.bind_eq_some_iff.1 hz
    simp [zeroValue, typeInfo, hi, hzz]
  split at h
  · rename_i cs hz
    split at h
    · rename_i hva; exact fin hz (by rw [hva]; exact h)
    · cases h
  · rename_i z hne hz
    split at h
    · cases h
    · rename_i hva; exact fin hz (by rw [hva]; exact h)
  · cases h
omit [Dr] in
theorem mapX_some {t : TypeId} {ob : Option AB} {m : MTy} {xs : Mp m.K m.V} (h : mapX P t ob = some ⟨m, xs⟩) : ob = some (.map m xs) ∧ P.underlying t = some (.map m.kt m.vt) ∧ keyB P m.ka m.kt m.K = true ∧ flatT m.V = true := by
  unfold mapX at h
  split at h
  · rename_i m' xs'
    split at h
    · rename_i kt vt hu
      split at h
      · rename_i hb
        simp only [Option.some.injEq, Sigma.mk.injEq] at h
        obtain ⟨rfl, h⟩ := h
        obtain rfl := eq_of_heq h
        simp only [Bool.and_eq_true] at hb
        obtain rfl := Nat.eq_of_beq_eq_true hb.1
        obtain rfl := Nat.eq_of_beq_eq_true hb.2.1
        exact ⟨rfl, hu, hb.2.2.1, hb.2.2.2⟩
      · cases h
    · cases h
  · cases h
omit [Dr] in
theorem run_setMap {r : Nat} {es : Array MapEntry} {clock : Nat} (ob : Obj) (hb : w.heap[r]? = some (.map es clock)) : (setObj r ob).run P w = .ok () { w with heap := w.heap.setIfInBounds r ob } := MapKept.run_setObj_map ob hb
/-- the world behind a turn of one map -/
theorem ev_map {n : Nat} {es es' : Array MapEntry} {c c' : Nat} (hb : w.heap[n]? = some (.map es c)) : EvT (fun t => t = σ n) σ w σ { w with heap := w.heap.setIfInBounds n (.map es' c') } :=
  ⟨rfl, rfl, rfl, fun _ => Nat.le_refl _, by simp, fun b hb' hn => ⟨rfl, by
    show (w.heap.setIfInBounds n _)[b]? = w.heap[b]?
    rw [Array.getElem?_setIfInBounds]
    rw [if_neg (fun e => hn (by rw [e]))]⟩⟩
theorem put_map {b n : Nat} {m : MTy} {xs xs' : Mp m.K m.V} {es es' : Array MapEntry} {v : Value} (hC : Conc E σ τ β ⟨tm, H⟩ a w) (hx : H[b]? = some (.map m xs)) (hv : β[b]? = some v) (e1 : v = .map (some n)) (hb : w.heap[n]? = some (.map es xs.length)) (hn : σ n = τ b)
    (he : es'.toList = ents m.ka m.K m.va m.V 0 xs') : EvT (Rng E) σ w σ { w with heap := w.heap.setIfInBounds n (.map es' xs'.length) } ∧ Conc E σ τ β ⟨tm, H.set b (.map m xs')⟩ a { w with heap := w.heap.setIfInBounds n (.map es' xs'.length) } := by
  have hev : EvT (fun t => t = τ b) σ w σ { w with heap := w.heap.setIfInBounds n (.map es' xs'.length) } := by rw [← hn]; exact ev_map hb
  have hP := hC.apart b _ hx rfl
  have hlt := (Array.getElem?_eq_some_iff.1 hb).1
  refine ⟨hev.mono (fun t h hp => hP (h ▸ hp)), Conc.put hC hx rfl hv hev ⟨n, es', e1, ?_, hn, he⟩⟩
  show (w.heap.setIfInBounds n _)[n]? = _
  rw [Array.getElem?_setIfInBounds]
  simp [hlt]

theorem lookup_sound {t : TypeId} {x k : Operand} {ok : Bool} {y : AV} (hC : Conc E σ τ β ⟨tm, H⟩ a w) (ho : o.op = .lookup t x k ok) (h : lookupX P H t (aeval tm x) (aeval tm k) ok = some y) : OpOut P E σ β tm a w o H y := by
  have hx := aeval_rel hC x
  have hk := aeval_rel hC k
  unfold lookupX at h
  split at h
  case h_2 => cases h
  rename_i b hab
  rw [hab] at hx
  split at h
  case h_2 => cases h
  rename_i m xs hm
  obtain ⟨g1, g2, g3, g4⟩ := mapX_some hm
  split at h
  case h_2 => cases h
  rename_i key z hkey hz
  obtain ⟨_, hkv⟩ := decF_rel hkey hk
  simp only [Rel] at hx
  have hB := hC.look g1 hx.1
  obtain ⟨n, es, e1, e2, e3, e4⟩ := hB
  have hfind := find_run (P := P) (w := w) (va := m.va) (V := m.V) g3 key xs 0
  have hget := mfind_get (K := m.K) (V := m.V) xs key 0
  simp only [Option.some.injEq] at h
  subst h
  have hl : (Instr.lookup t (a.eval x) (a.eval k) ok).run P w = .ok (resV ok (valF m.va m.V ((mget m.K m.V xs key).getD z)) (mget m.K m.V xs key).isSome) w := by
    unfold Instr.lookup
    simp only [Sem.run_bind, run_underlying g2, Result.andThen_ok]
    rw [e1, hkv]
    simp only [Sem.run_bind, MapKept.run_getObj_map e2, Result.andThen_ok, Sem.run_pure, keyB_check (w := w) g3, e4, hfind]
    rw [hget]
    cases hf : mfind m.K m.V xs key 0 with
    | none =>
      simp only [Option.map_none, Sem.run_bind, zeroM_run hz, Result.andThen_ok, Sem.run_pure, Option.getD_none, Option.isSome_none]
      cases ok <;> rfl
    | some r =>
      simp only [Option.map_some, Sem.run_bind, Sem.run_pure, Result.andThen_ok, Option.getD_some, Option.isSome_some]
      cases ok <;> rfl
  refine OpOut.same hC (v := resV ok (valF m.va m.V ((mget m.K m.V xs key).getD z)) (mget m.K m.V xs key).isSome) ?_ ?_
  · simp only [execOp, ho, Sem.run_bind, Sem.run_map, hl]
    rfl
  · cases ok with
    | false => exact encA_rel
    | true =>
      simp only [resA, resV, Rel]
      refine ⟨[valF m.va m.V ((mget m.K m.V xs key).getD z), .bool (mget m.K m.V xs key).isSome], rfl, ?_⟩
      simp only [RelL]
      exact ⟨_, _, rfl, encA_rel, _, _, rfl, by simp [Rel], rfl⟩

omit [Dr] in
/-- the entry that a key has -/
theorem hit_parts {m : MTy} {xs : Mp m.K m.V} {es : Array MapEntry} {key : m.K.Den} {i : Nat} {v y : m.V.Den} (hk : flatT m.K = true) (he : es.toList = ents m.ka m.K m.va m.V 0 xs) (hf : mfind m.K m.V xs key 0 = some (i, v)) :
    (((es[i]?).map (·.key)).getD (valF m.ka m.K key) = valF m.ka m.K key) ∧ (es.modify i fun e => { e with key := valF m.ka m.K key, val := valF m.va m.V y }).toList = ents m.ka m.K m.va m.V 0 (mset m.K m.V xs key y) ∧ (mset m.K m.V xs key y).length = xs.length ∧
      (((es[i]?).map (·.born)).getD 0 = mpos m.K m.V xs key) := by
  have hf' : mfind m.K m.V xs key 0 = some (0 + i, v) := by rw [Nat.zero_add]; exact hf
  obtain ⟨h1, h2, h3⟩ := ents_hit (ka := m.ka) (va := m.va) (j := 0) y hk hf'
  have h4 := mpos_hit (ka := m.ka) (va := m.va) (j := 0) hf'
  have ei : es[i]? = (ents m.ka m.K m.va m.V 0 xs)[i]? := by rw [← he, Array.getElem?_toList]
  refine ⟨by rw [ei, h3]; rfl, by rw [Array.toList_modify, he, h1], h2, by rw [ei, h4]; simp⟩
theorem upd_sound {t : TypeId} {x k v : Operand} {H' : List AB} (hC : Conc E σ τ β ⟨tm, H⟩ a w) (ho : o.op = .mapUpdate t x k v) (h : updX P H t (aeval tm x) (aeval tm k) (aeval tm v) = some H') : OpOut P E σ β tm a w o H' .unk := by
  have hx := aeval_rel hC x
  have hk := aeval_rel hC k
  have hv := aeval_rel hC v
  unfold updX at h
  split at h
  case h_2 => cases h
  rename_i b hab
  rw [hab] at hx
  split at h
  case h_2 => cases h
  rename_i m xs hm
  obtain ⟨g1, g2, g3, g4⟩ := mapX_some hm
  split at h
  case h_2 => cases h
  rename_i key y hkey hy
  obtain ⟨hfk, hkv⟩ := decF_rel hkey hk
  obtain ⟨_, hyv⟩ := decF_rel hy hv
  obtain rfl := Option.some.inj h
  simp only [Rel] at hx
  obtain ⟨n, es, e1, e2, e3, e4⟩ := hC.heap b _ _ g1 hx.1
  have hfind := find_run (P := P) (w := w) (va := m.va) (V := m.V) g3 key xs 0
  rw [← e4] at hfind
  cases hf : mfind m.K m.V xs key 0 with
  | none =>
    obtain ⟨h1, h2⟩ := ents_new (ka := m.ka) (va := m.va) (j := 0) y hf
    obtain ⟨hev, hC'⟩ := put_map (es' := es.push ⟨valF m.ka m.K key, valF m.va m.V y, xs.length⟩) (xs' := mset m.K m.V xs key y) hC g1 hx.1 e1 e2 e3 (by rw [Array.toList_push, e4, h1]; simp)
    refine OpGives.unit σ (w' := { w with heap := w.heap.setIfInBounds n (.map (es.push ⟨valF m.ka m.K key, valF m.va m.V y, xs.length⟩) (mset m.K m.V xs key y).length) }) ?_ ⟨τ, β, ⟨[], by simp⟩, hev, hC', by simp [Rel]⟩
    rw [hf] at hfind
    have : (Instr.mapUpdate t (a.eval x) (a.eval k) (a.eval v)).run P w = .ok () { w with heap := w.heap.setIfInBounds n (.map (es.push ⟨valF m.ka m.K key, valF m.va m.V y, xs.length⟩) (mset m.K m.V xs key y).length) } := by
      unfold Instr.mapUpdate
      rw [e1, hkv, hyv]
      simp only [Sem.run_bind, run_underlying g2, MapKept.run_getObj_map e2, keyB_check (w := w) g3, hfind, Result.andThen_ok, Option.map_none, run_setMap _ e2, h2]
    simp only [execOp, ho, Sem.run_bind, Sem.run_map, this]
    rfl
  | some r =>
    obtain ⟨i, v0⟩ := r
    obtain ⟨h0, h1, h2, _⟩ := hit_parts (y := y) hfk e4 hf
    obtain ⟨hev, hC'⟩ := put_map (xs' := mset m.K m.V xs key y) hC g1 hx.1 e1 e2 e3 h1
    refine OpGives.unit σ (w' := { w with heap := w.heap.setIfInBounds n (.map (es.modify i fun e => { e with key := valF m.ka m.K key, val := valF m.va m.V y }) (mset m.K m.V xs key y).length) }) ?_ ⟨τ, β, ⟨[], by simp⟩, hev, hC', by simp [Rel]⟩
    rw [hf] at hfind
    have : (Instr.mapUpdate t (a.eval x) (a.eval k) (a.eval v)).run P w = .ok () { w with heap := w.heap.setIfInBounds n (.map (es.modify i fun e => { e with key := valF m.ka m.K key, val := valF m.va m.V y }) (mset m.K m.V xs key y).length) } := by
      unfold Instr.mapUpdate
      rw [e1, hkv, hyv]
      simp only [Sem.run_bind, run_underlying g2, MapKept.run_getObj_map e2, keyB_check (w := w) g3, hfind, Result.andThen_ok, Option.map_some, h0, keyB_stays (w := w) g3, run_setMap _ e2, h2]
    simp only [execOp, ho, Sem.run_bind, Sem.run_map, this]
    rfl
omit [Dr] in
theorem mset_same {K V : Ty} (hk : flatT K = true) : ∀ {xs : Mp K V} {k : K.Den} {i : Nat} {j : Nat} {v : V.Den}, mfind K V xs k i = some (j, v) → mset K V xs k v = xs
  | [], _, _, _, _, h => by simp [mfind] at h
  | none :: l, k, i, j, v, h => by simp only [mfind] at h; simp only [mset, mset_same hk h]
  | some (k', v') :: l, k, i, j, v, h => by
    simp only [mfind] at h
    cases he : eqT K k k' with
    | true =>
      rw [he] at h
      simp only [cond_true, Option.some.injEq, Prod.mk.injEq] at h
      simp only [mset, he, cond_true, h.2]
    | false => rw [he] at h; simp only [mset, he, cond_false, mset_same hk (i := i + 1) h]
omit [Dr] in
theorem modify_key {l : List MapEntry} {i : Nat} {u : Value} (h : (l[i]?).map (·.key) = some u) : (l.modify i fun e => { e with key := u }) = l := by
  apply List.ext_getElem?
  intro q
  rw [List.getElem?_modify]
  by_cases hq : i = q
  · subst hq
    cases hl : l[i]? with
    | none => simp
    | some e =>
      rw [hl] at h
      simp only [Option.map_some, Option.some.injEq] at h
      subst h
      simp
  · simp [hq]
theorem entry_sound {t : TypeId} {x k : Operand} {H' : List AB} {y : AV} (hC : Conc E σ τ β ⟨tm, H⟩ a w) (ho : o.op = .mapEntry t x k) (h : entryX P H t (aeval tm x) (aeval tm k) = some (H', y)) : OpOut P E σ β tm a w o H' y := by
  have hx := aeval_rel hC x
  have hk := aeval_rel hC k
  unfold entryX at h
  split at h
  case h_2 => cases h
  rename_i b hab
  rw [hab] at hx
  split at h
  case h_2 => cases h
  rename_i m xs hm
  obtain ⟨g1, g2, g3, g4⟩ := mapX_some hm
  split at h
  case h_2 => cases h
  rename_i key z hkey hz
  obtain ⟨hfk, hkv⟩ := decF_rel hkey hk
  simp only [Option.some.injEq, Prod.mk.injEq] at h
  obtain ⟨rfl, rfl⟩ := h
  simp only [Rel] at hx
  obtain ⟨n, es, e1, e2, e3, e4⟩ := hC.heap b _ _ g1 hx.1
  have hfind := find_run (P := P) (w := w) (va := m.va) (V := m.V) g3 key xs 0
  rw [← e4] at hfind
  have hget := mfind_get (K := m.K) (V := m.V) xs key 0
  have hrel : ∀ (d : m.V.Den) (s : Nat) (w' : World), Rel E σ w' β (.tup [encA m.va m.V d, .val (.int .i64 s)]) (.tuple #[valF m.va m.V d, .int .i64 s]) := by
    intro d s w'
    simp only [Rel]
    refine ⟨[valF m.va m.V d, .int .i64 s], rfl, ?_⟩
    simp only [RelL]
    exact ⟨_, _, rfl, encA_rel, _, _, rfl, by simp [Rel], rfl⟩
  cases hf : mfind m.K m.V xs key 0 with
  | none =>
    have hg : (mget m.K m.V xs key).getD z = z := by rw [hget, hf]; rfl
    have hp : mpos m.K m.V xs key = xs.length := mpos_new hf
    rw [hg, hp]
    obtain ⟨h1, h2⟩ := ents_new (ka := m.ka) (va := m.va) (j := 0) z hf
    obtain ⟨hev, hC'⟩ := put_map (es' := es.push ⟨valF m.ka m.K key, valF m.va m.V z, xs.length⟩) (xs' := mset m.K m.V xs key z) hC g1 hx.1 e1 e2 e3 (by rw [Array.toList_push, e4, h1]; simp)
    refine OpGives.val σ (v := .tuple #[valF m.va m.V z, .int .i64 xs.length]) (w' := { w with heap := w.heap.setIfInBounds n (.map (es.push ⟨valF m.ka m.K key, valF m.va m.V z, xs.length⟩) (mset m.K m.V xs key z).length) }) ?_ ⟨τ, β, ⟨[], by simp⟩, hev, hC', hrel _ _ _⟩
    rw [hf] at hfind
    have : (Instr.mapEntry t (a.eval x) (a.eval k)).run P w = .ok (.tuple #[valF m.va m.V z, .int .i64 xs.length]) { w with heap := w.heap.setIfInBounds n (.map (es.push ⟨valF m.ka m.K key, valF m.va m.V z, xs.length⟩) (mset m.K m.V xs key z).length) } := by
      unfold Instr.mapEntry
      rw [e1, hkv]
      simp only [Sem.run_bind, run_underlying g2, MapKept.run_getObj_map e2, keyB_check (w := w) g3, hfind, Result.andThen_ok, Option.map_none, zeroM_run hz, run_setMap _ e2, h2, Sem.run_pure, goInt]
    simp only [execOp, ho, Sem.run_bind, Sem.run_map, this]
    rfl
  | some r =>
    obtain ⟨i, v0⟩ := r
    have hg : (mget m.K m.V xs key).getD z = v0 := by rw [hget, hf]; rfl
    rw [hg, mset_same hfk hf]
    obtain ⟨h0, _, _, hb⟩ := hit_parts (y := v0) hfk e4 hf
    have hb' : ((es[i]?).map fun x => (x.born : Int)).getD 0 = (mpos m.K m.V xs key : Int) := by
      rw [← hb]
      cases es[i]? <;> rfl
    have hkey' : (es.modify i fun e => { e with key := valF m.ka m.K key }).toList = ents m.ka m.K m.va m.V 0 xs := by
      rw [Array.toList_modify, modify_key, e4]
      rw [e4]
      exact (ents_hit (ka := m.ka) (va := m.va) (j := 0) (i := 0) (n := i) v0 hfk (by rw [Nat.zero_add]; exact hf)).2.2
    obtain ⟨hev, hC'⟩ := put_map (xs' := xs) hC g1 hx.1 e1 e2 e3 hkey'
    refine OpGives.val σ (v := .tuple #[valF m.va m.V v0, .int .i64 (mpos m.K m.V xs key)]) (w' := { w with heap := w.heap.setIfInBounds n (.map (es.modify i fun e => { e with key := valF m.ka m.K key }) xs.length) }) ?_ ⟨τ, β, ⟨[], by simp⟩, hev, hC', hrel _ _ _⟩
    rw [hf] at hfind
    have : (Instr.mapEntry t (a.eval x) (a.eval k)).run P w = .ok (.tuple #[valF m.va m.V v0, .int .i64 (mpos m.K m.V xs key)]) { w with heap := w.heap.setIfInBounds n (.map (es.modify i fun e => { e with key := valF m.ka m.K key }) xs.length) } := by
      unfold Instr.mapEntry
      rw [e1, hkv]
      simp only [Sem.run_bind, run_underlying g2, MapKept.run_getObj_map e2, keyB_check (w := w) g3, hfind, Result.andThen_ok, Option.map_some, h0, keyB_stays (w := w) g3, run_setMap _ e2, Sem.run_pure, goInt, hb']
    simp only [execOp, ho, Sem.run_bind, Sem.run_map, this]
    rfl
theorem estore_sound {t : TypeId} {x s v : Operand} {H' : List AB} (hC : Conc E σ τ β ⟨tm, H⟩ a w) (ho : o.op = .entryStore t x s v) (h : estoreX P H t (aeval tm x) (aeval tm s) (aeval tm v) = some (true, H')) : OpOut P E σ β tm a w o H' .unk := by
  have hx := aeval_rel hC x
  have hs := aeval_rel hC s
  have hv := aeval_rel hC v
  unfold estoreX at h
  split at h
  case h_2 => cases h
  rename_i b n0 hab hsn
  rw [hab] at hx
  rw [hsn] at hs
  split at h
  case h_2 => cases h
  rename_i m xs hm
  obtain ⟨g1, g2, g3, g4⟩ := mapX_some hm
  split at h
  case h_2 => cases h
  rename_i y hy
  obtain ⟨_, hyv⟩ := decF_rel hy hv
  simp only [Option.some.injEq, Prod.mk.injEq, Bool.and_eq_true, decide_eq_true_eq] at h
  obtain ⟨⟨hn0, hhas⟩, rfl⟩ := h
  simp only [Rel] at hx hs
  obtain ⟨n, es, e1, e2, e3, e4⟩ := hC.heap b _ _ g1 hx.1
  obtain ⟨i, h1, h2⟩ := ents_at (ka := m.ka) (va := m.va) (j := 0) y hhas
  have hnn : ((0 + n0.toNat : Nat) : Int) = n0 := by omega
  rw [hnn, ← e4] at h1
  have h1' : es.findIdx? (fun e => (e.born : Int) == n0) = some i := by
    have : es.findIdx? (fun e => (e.born : Int) == n0) = es.toList.findIdx? (fun e => (e.born : Int) == n0) := by cases es; simp
    rw [this]; exact h1
  obtain ⟨hev, hC'⟩ := put_map (es' := es.modify i fun e => { e with val := valF m.va m.V y }) (xs' := mput m.K m.V xs n0.toNat y) hC g1 hx.1 e1 e2 e3 (by rw [Array.toList_modify, e4, h2])
  refine OpGives.unit σ (w' := { w with heap := w.heap.setIfInBounds n (.map (es.modify i fun e => { e with val := valF m.va m.V y }) (mput m.K m.V xs n0.toNat y).length) }) ?_ ⟨τ, β, ⟨[], by simp⟩, hev, hC', by simp [Rel]⟩
  have : (Instr.entryStore t (a.eval x) (a.eval s) (a.eval v)).run P w = .ok () { w with heap := w.heap.setIfInBounds n (.map (es.modify i fun e => { e with val := valF m.va m.V y }) (mput m.K m.V xs n0.toNat y).length) } := by
    unfold Instr.entryStore
    rw [e1, hs, hyv]
    simp only [Sem.run_bind, MapKept.run_getObj_map e2, Result.andThen_ok, asInt, asIntOf, Sem.run_pure, h1', run_setMap _ e2, mput_len]
  simp only [execOp, ho, Sem.run_bind, Sem.run_map, this]
  rfl
theorem del_sound {t t2 : TypeId} {x k : Operand} {H' : List AB} (hC : Conc E σ τ β ⟨tm, H⟩ a w) (ho : o.op = .call { callee := .builtin .delete, args := #[x, k], argTypes := #[t, t2] }) (h : delX P H t (aeval tm x) (aeval tm k) = some H') : OpOut P E σ β tm a w o H' (.tup []) := by
  have hx := aeval_rel hC x
  have hk := aeval_rel hC k
  unfold delX at h
  split at h
  case h_2 => cases h
  rename_i b hab
  rw [hab] at hx
  split at h
  case h_2 => cases h
  rename_i m xs hm
  obtain ⟨g1, g2, g3, g4⟩ := mapX_some hm
  split at h
  case h_2 => cases h
  rename_i key hkey
  obtain ⟨hfk, hkv⟩ := decF_rel hkey hk
  obtain rfl := Option.some.inj h
  simp only [Rel] at hx
  obtain ⟨n, es, e1, e2, e3, e4⟩ := hC.heap b _ _ g1 hx.1
  have hfind := find_run (P := P) (w := w) (va := m.va) (V := m.V) g3 key xs 0
  rw [← e4] at hfind
  have fin : ∀ (es' : Array MapEntry), es'.toList = ents m.ka m.K m.va m.V 0 (mdel m.K m.V xs key) → (Builtin.delete_ #[t, t2] o.type #[a.eval x, a.eval k]).run P w = .ok (.tuple #[]) { w with heap := w.heap.setIfInBounds n (.map es' xs.length) } → OpOut P E σ β tm a w o (H.set b (.map m (mdel m.K m.V xs key))) (.tup []) := by
    intro es' he hrun
    obtain ⟨hev, hC'⟩ := put_map (es' := es') (xs' := mdel m.K m.V xs key) hC g1 hx.1 e1 e2 e3 he
    rw [mdel_len] at hev hC'
    refine OpGives.val σ (v := .tuple #[]) ?_ ⟨τ, β, ⟨[], by simp⟩, hev, hC', ?_⟩
    · simp [execOp, ho, resolve, invoke, builtin, hrun]
    · simp only [Rel]; exact ⟨[], rfl, by simp [RelL]⟩
  cases hf : mfind m.K m.V xs key 0 with
  | none =>
    refine fin es (by rw [mdel_new hf, e4]) ?_
    rw [hf] at hfind
    unfold Builtin.delete_
    rw [e1, hkv]
    simp [run_underlying g2, MapKept.run_getObj_map e2, keyB_check (w := w) g3, hfind, run_setMap _ e2]
  | some r =>
    obtain ⟨i, v0⟩ := r
    have hd := mdel_hit (ka := m.ka) (va := m.va) (j := 0) (i := 0) (n := i) (xs := xs) (k := key) (v := v0) (by rw [Nat.zero_add]; exact hf)
    have hlen : i < es.size := by
      have := (ents_hit (ka := m.ka) (va := m.va) (j := 0) (i := 0) (n := i) v0 hfk (by rw [Nat.zero_add]; exact hf)).2.2
      obtain ⟨e, he, _⟩ := Option.map_eq_some_iff.1 this
      rw [← e4] at he
      simpa using (List.getElem?_eq_some_iff.1 he).1
    refine fin (es.eraseIdxIfInBounds i) (by rw [Array.eraseIdxIfInBounds, dif_pos hlen, Array.toList_eraseIdx, e4, hd]) ?_
    rw [hf] at hfind
    unfold Builtin.delete_
    rw [e1, hkv]
    simp [run_underlying g2, MapKept.run_getObj_map e2, keyB_check (w := w) g3, hfind, run_setMap _ e2]
theorem mlen_sound {t : TypeId} {x : Operand} {y : AV} (hC : Conc E σ τ β ⟨tm, H⟩ a w) (ho : o.op = .call { callee := .builtin .len, args := #[x], argTypes := #[t] }) (h : mlenX P H t (aeval tm x) = some y) : OpOut P E σ β tm a w o H y := by
  have hx := aeval_rel hC x
  unfold mlenX at h
  split at h
  case h_2 => cases h
  rename_i b hab
  rw [hab] at hx
  split at h
  case h_2 => cases h
  rename_i m xs hm
  obtain ⟨g1, g2, g3, g4⟩ := mapX_some hm
  obtain rfl := Option.some.inj h
  simp only [Rel] at hx
  obtain ⟨n, es, e1, e2, e3, e4⟩ := hC.look g1 hx.1
  have hl : es.size = mlen m.K m.V xs := by rw [← Array.length_toList, e4, mlen_ents]
  refine OpOut.same hC (v := .int .i64 (mlen m.K m.V xs)) ?_ (by simp [Rel])
  simp [execOp, ho, resolve, invoke, builtin, e1, Builtin.len_, run_underlying g2, goInt, MapKept.run_getObj_map e2, hl]
theorem make_sound {t : TypeId} {m : MTy} (hC : Conc E σ τ β ⟨tm, H⟩ a w) (ho : o.op = .makeMap t none) (h : makeX P t = some m) : OpOut P E σ β tm a w o (H ++ [.map m []]) (.map H.length) := by
  have hsz := hC.size
  simp only at hsz
  obtain ⟨t', hP, ht⟩ := conc_fresh hC
  have hev : EvT (fun _ => False) σ w (upd σ w.heap.size t') { w with heap := w.heap.push (.map #[] 0) } := by
    refine ⟨rfl, rfl, rfl, fun _ => Nat.le_refl _, by simp, fun b hb _ => ⟨?_, ?_⟩⟩
    · simp [upd, Nat.ne_of_lt hb]
    · show (w.heap.push _)[b]? = w.heap[b]?
      rw [Array.getElem?_push]
      rw [if_neg (Nat.ne_of_lt hb)]
  have hpre : ∃ s, β ++ [Value.map (some w.heap.size)] = β ++ s := ⟨_, rfl⟩
  refine OpGives.val (upd σ w.heap.size t') (v := .map (some w.heap.size)) (w' := { w with heap := w.heap.push (.map #[] 0) }) ?_ ⟨_, β ++ [.map (some w.heap.size)], hpre, hev.mono (fun _ h => h.elim), conc_new hC (hev.mono (fun _ h => h.elim)) hP ht ?_, ?_⟩
  · simp [execOp, ho, Instr.makeMap, newObj, Sem.run]
  · refine ⟨w.heap.size, #[], rfl, by simp, by simp [upd], rfl⟩
  · simp only [Rel]
    exact ⟨by rw [← hsz]; simp, rfl⟩
omit [Dr] in
theorem map_set {b : Nat} {m : MTy} {xs xs' : Mp m.K m.V} (h : H[b]? = some (.map m xs)) : HPres H (H.set b (.map m xs')) := .set h (fun _ => by simp)
omit [Dr] in
theorem updX_pres {t : TypeId} {x k v : AV} {H' : List AB} (h : updX P H t x k v = some H') : HPres H H' := by
  unfold updX at h
  split at h
  case h_2 => cases h
  split at h
  case h_2 => cases h
  rename_i m xs hm
  split at h
  case h_2 => cases h
  obtain rfl := Option.some.inj h
  exact map_set (mapX_some hm).1
omit [Dr] in
theorem entryX_pres {t : TypeId} {x k : AV} {H' : List AB} {y : AV} (h : entryX P H t x k = some (H', y)) : HPres H H' := by
  unfold entryX at h
  split at h
  case h_2 => cases h
  split at h
  case h_2 => cases h
  rename_i m xs hm
  split at h
  case h_2 => cases h
  simp only [Option.some.injEq, Prod.mk.injEq] at h
  obtain ⟨rfl, _⟩ := h
  exact map_set (mapX_some hm).1
omit [Dr] in
theorem estoreX_pres {t : TypeId} {x k v : AV} {H' : List AB} {c : Bool} (h : estoreX P H t x k v = some (c, H')) : HPres H H' := by
  unfold estoreX at h
  split at h
  case h_2 => cases h
  split at h
  case h_2 => cases h
  rename_i m xs hm
  split at h
  case h_2 => cases h
  simp only [Option.some.injEq, Prod.mk.injEq] at h
  obtain ⟨_, rfl⟩ := h
  exact map_set (mapX_some hm).1
omit [Dr] in
theorem delX_pres {t : TypeId} {x k : AV} {H' : List AB} (h : delX P H t x k = some H') : HPres H H' := by
  unfold delX at h
  split at h
  case h_2 => cases h
  split at h
  case h_2 => cases h
  rename_i m xs hm
  split at h
  case h_2 => cases h
  obtain rfl := Option.some.inj h
  exact map_set (mapX_some hm).1
/-- Behind a mapEntry: each map has what it had, but that a key more may have its zero value. -/
def MapEq (P : Program) (H H' : List AB) : Prop :=
  ∀ (b : Nat) (m : MTy) (xs : Mp m.K m.V), look H b = some (.map m xs) → ∃ xs', look H' b = some (.map m xs') ∧ ∀ z, zeroM P m = some z → flatT m.K = true → ∀ k, (mget m.K m.V xs' k).getD z = (mget m.K m.V xs k).getD z
omit [Dr] in
theorem MapEq.refl (H : List AB) : MapEq P H H := fun b m xs h => ⟨xs, h, fun _ _ _ _ => rfl⟩
omit [Dr] in
theorem MapEq.trans {H H' H'' : List AB} (h : MapEq P H H') (k : MapEq P H' H'') : MapEq P H H'' := fun b m xs hb => by
  obtain ⟨xs', h1, h2⟩ := h b m xs hb
  obtain ⟨xs'', k1, k2⟩ := k b m xs' h1
  exact ⟨xs'', k1, fun z hz hk q => (k2 z hz hk q).trans (h2 z hz hk q)⟩
omit [Dr] in
theorem mget_mset {K V : Ty} (hk : flatT K = true) : ∀ (xs : Mp K V) (k : K.Den) (v : V.Den) (q : K.Den), mget K V (mset K V xs k v) q = bif eqT K q k then some v else mget K V xs q
  | [], k, v, q => by simp only [mset, mget]
  | none :: l, k, v, q => by simp only [mset, mget, mget_mset hk l k v q]
  | some (k', v') :: l, k, v, q => by
    simp only [mset]
    cases he : eqT K k k' with
    | true =>
      obtain rfl := (eqT_iff hk).1 he
      simp only [cond_true, mget]
      cases eqT K q k <;> rfl
    | false =>
      simp only [cond_false, mget, mget_mset hk l k v q]
      cases hq : eqT K q k' with
      | false => rfl
      | true =>
        obtain rfl := (eqT_iff hk).1 hq
        cases hqk : eqT K q k with
        | false => rfl
        | true =>
          obtain rfl := (eqT_iff hk).1 hqk
          rw [hq] at he; cases he
omit [Dr] in
theorem look_set {b : Nat} {x y : AB} {j : Nat} (h : H[b]? = some x) : look (H.set b y) j = if b = j then some y.bare else look H j := by
  unfold look
  rw [List.getElem?_set]
  by_cases hj : b = j
  · subst hj
    rw [if_pos rfl, if_pos (List.getElem?_eq_some_iff.1 h).1, if_pos rfl]
  · rw [if_neg hj, if_neg hj]
omit [Dr] in
theorem entry_mapEq {t : TypeId} {x k : AV} {H' : List AB} {y : AV} (h : entryX P H t x k = some (H', y)) : MapEq P H H' := by
  unfold entryX at h
  split at h
  case h_2 => cases h
  rename_i b
  split at h
  case h_2 => cases h
  rename_i m xs hm
  obtain ⟨g1, g2, g3, g4⟩ := mapX_some hm
  split at h
  case h_2 => cases h
  rename_i key z hkey hz
  simp only [Option.some.injEq, Prod.mk.injEq] at h
  obtain ⟨rfl, _⟩ := h
  intro b' m' xs' hb'
  by_cases hbb : b = b'
  · subst hbb
    have hl : look H b = some (.map m xs) := by unfold look; rw [g1]; rfl
    rw [hl] at hb'
    simp only [Option.some.injEq, AB.map.injEq] at hb'
    obtain ⟨rfl, hx⟩ := hb'
    obtain rfl := eq_of_heq hx
    refine ⟨_, by rw [look_set g1, if_pos rfl]; rfl, fun z' hz' hk q => ?_⟩
    rw [hz] at hz'
    obtain rfl := Option.some.inj hz'
    rw [mget_mset hk]
    cases hq : eqT m.K q key with
    | false => rfl
    | true =>
      obtain rfl := (eqT_iff hk).1 hq
      rfl
  · exact ⟨xs', by rw [look_set g1, if_neg hbb]; exact hb', fun _ _ _ _ => rfl⟩
omit [Dr] in
/-- A lookup without a second answer says the same then. -/
theorem lookupX_eq {H' : List AB} {t : TypeId} {x k : AV} {y : AV} (hE : MapEq P H H') (h : lookupX P H t x k false = some y) : lookupX P H' t x k false = some y := by
  unfold lookupX at h ⊢
  split at h
  case h_2 => cases h
  rename_i b
  split at h
  case h_2 => cases h
  rename_i m xs hm
  obtain ⟨g1, g2, g3, g4⟩ := mapX_some hm
  split at h
  case h_2 => cases h
  rename_i key z hkey hz
  obtain ⟨xs', h1, h2⟩ := hE b m xs g1
  have hm' : mapX P t (look H' b) = some ⟨m, xs'⟩ := by
    rw [h1]
    unfold mapX
    simp only [g2]
    have : (Nat.beq m.kt m.kt && (Nat.beq m.vt m.vt && (keyB P m.ka m.kt m.K && flatT m.V))) = true := by
      simp only [Nat.beq_refl, g3, g4, Bool.and_self]
    rw [this]
  simp only [hm', hkey, hz]
  simp only [Option.some.injEq] at h
  subst h
  simp only [resA, h2 z hz (keyB_flat g3) key]
theorem part_runV {t : TypeId} {cs : List AV} {vs : List Value} {off : Nat} {y : AV} (hr : RelL E σ w β cs vs) (h : partX P t cs off = some y) : ∃ u, (part t vs.toArray off).run P w = .ok u w ∧ Rel E σ w β y u := by
  unfold partX at h
  split at h
  · rename_i hs
    obtain ⟨u, h1, h2⟩ := RelL.get hr h
    exact ⟨u, part_scalar hs (by simpa using h1), h2⟩
  · split at h
    · rename_i i ha hi
      split at h
      · rename_i hb
        have hb := Nat.le_of_ble_eq_true hb
        simp only [Option.some.injEq] at h
        subst h
        have hl := hr.length
        refine ⟨.agg ((vs.drop off).take i.size).toArray, ?_, ?_⟩
        · have hsz : (sizeOf t).run P w = .ok i.size w := Go.Vk.run_sizeOf (by rw [hi]; rfl)
          simp only [part, Sem.run_bind, run_isAgg_true ha, Result.andThen_ok, if_true, hsz, Sem.run_pure]
          congr 2
          apply Array.ext'
          simp [List.extract_eq_take_drop]
        · simp only [Rel]
          exact ⟨_, rfl, RelL.take _ (RelL.drop _ hr)⟩
      · cases h
    · cases h
/-- A field of a known struct. -/
def fieldV (P : Program) (t : TypeId) (x : AV) (f : Nat) : Option AV :=
  match x with
  | .agg cs => match P.underlying t with
    | some (.struct fs) => match fs[f]? with
      | some fd => partX P fd.type cs fd.offset
      | none => none
    | _ => none
  | _ => none
theorem fieldV_sound {t : TypeId} {x : Operand} {f : Nat} {y : AV} (hC : Conc E σ τ β ⟨tm, H⟩ a w) (ho : o.op = .field t x f) (h : fieldV P t (aeval tm x) f = some y) : OpOut P E σ β tm a w o H y := by
  have hx := aeval_rel hC x
  unfold fieldV at h
  split at h
  case h_2 => cases h
  rename_i cs hcs
  rw [hcs] at hx
  simp only [Rel] at hx
  obtain ⟨vs, e, hr⟩ := hx
  split at h
  case h_2 => cases h
  rename_i fs hu
  split at h
  case h_2 => cases h
  rename_i fd hf
  obtain ⟨u, h1, h2⟩ := part_runV hr h
  refine OpOut.same hC (v := u) ?_ h2
  have : (Instr.field t (a.eval x) f).run P w = .ok u w := by
    unfold Instr.field
    rw [e]
    simp only [Sem.run_bind, run_underlying hu, Result.andThen_ok, hf, asAgg, Sem.run_pure, h1]
  simp only [execOp, ho, Sem.run_bind, Sem.run_map, this]
  rfl
end
end Go.Am

/- The abstract machine, part 23: nil, strings, bytes, shifts, cuts of rows. No statement of its own. -/
namespace Go.Am
open Go.Vk Go.RowKit
set_option linter.unusedVariables false
set_option linter.unusedSimpArgs false
variable [Dr]

/-- the string of bytes -/
def bytesS (xs : List Int) : ByteArray := xs.foldl (fun s n => s.push (UInt8.ofNat n.toNat)) ByteArray.empty
/-- an address, as a value -/
def adX : AV → Bool
  | .ptr _ _ => true
  | .ep .. => true
  | .rp .. => true
  | _ => false
/-- Something that is there, held against nil. -/
def nilX (P : Program) (o : Oper) (ρ : Operand → AV) : Option Value :=
  match o.op with
  | .binOp .eql t x y _ => match P.underlying t, ρ y with
    | some (.pointer _), .val (.pointer none) => match adX (ρ x) with
      | true => some (.bool false)
      | false => none
    | _, _ => none
  | .binOp .neq t x y _ => match P.underlying t, ρ y with
    | some (.pointer _), .val (.pointer none) => match adX (ρ x) with
      | true => some (.bool true)
      | false => none
    | _, _ => none
  | _ => none
def cutS (P : Program) (tm : List AV) (t : TypeId) (x : AV) (lo hi : Option Operand) : Option (Bool × AV) :=
  match P.underlying t, x with
  | some .string, .val (.string s) => match boundX tm 0 lo, boundX tm s.size hi with
    | some l, some h => some (decide (0 ≤ l) && (decide (l ≤ h) && decide (h ≤ (s.size : Int))), .val (.string (s.extract l.toNat h.toNat)))
    | _, _ => none
  | _, _ => none
/-- A cut of a known row: it is frozen. -/
def cutR (P : Program) (tm : List AV) (H : List AB) (t : TypeId) (x : AV) (lo hi : Option Operand) : Option (Bool × List AB × AV) :=
  match P.underlying t, x with
  | some (.slice e), .row r => match H[r]? with
    | some (.row T _ xs) => match (P.info? e).map (fun i => Nat.beq i.size T.sz), boundX tm 0 lo, boundX tm xs.length hi with
      | some true, some l, some h => some (decide (0 ≤ l) && (decide (l ≤ h) && decide (h ≤ (xs.length : Int))), H.set r .gone, .sv true T ((xs.take h.toNat).drop l.toNat))
      | _, _, _ => none
    | _ => none
  | _, _ => none
def b2sX (P : Program) (H : List AB) (src dst : TypeId) (x : AV) : Option AV :=
  match P.underlying src, P.underlying dst with
  | some (.slice e), some .string => match P.underlying e with
    | some (.int .u8) => match x with
      | .sv _ (.int .u8) xs => some (.val (.string (bytesS xs)))
      | .row r => match look H r with
        | some (.row (.int .u8) _ xs) => some (.val (.string (bytesS xs)))
        | _ => none
      | .val (.slice none 0 0) => some (.val (.string ByteArray.empty))
      | _ => none
    | _ => none
  | _, _ => none
section
variable {P : Program} {E : Env} {σ σ1 : Gh} {τ : Nat → Nat} {w w1 : World} {β : List Value} {tm : List AV} {H : List AB} {a : Act} {o : Oper}
theorem conc_freeze {r : Nat} {T : Ty} {e : TypeId} {xs : List T.Den} (hC : Conc E σ τ β ⟨tm, H⟩ a w) (hr : H[r]? = some (.row T e xs)) :
    ∃ σ', EvT (Rng E) σ w σ' w ∧ Conc E σ' τ β ⟨tm, H.set r .gone⟩ a w ∧ ∀ u, β[r]? = some u → Rel E σ' w β (.sv true T xs) u := by
  have hsz := hC.size
  simp only at hsz
  obtain ⟨v, hv⟩ : ∃ v, β[r]? = some v := ⟨_, List.getElem?_eq_getElem (by rw [hsz]; exact (List.getElem?_eq_some_iff.1 hr).1)⟩
  have hP := hC.apart r _ hr rfl
  obtain ⟨σ', h1, h2⟩ := (show Own T.kd e σ (τ r) w v xs from hC.heap r _ v hr hv).retag 0 (tag_pos hP)
  have hev : EvT (fun t => t = τ r) σ w σ' w := EvT.of h1 (fun t h1 h2 => by omega)
  refine ⟨σ', hev.mono (fun t h hp => hP (h ▸ hp)), Conc.put hC hr rfl hv hev trivial, fun u hu => ?_⟩
  rw [hv] at hu
  obtain rfl := Option.some.inj hu
  obtain ⟨A, c, e1, e2, _, e5⟩ := h2.rd
  simp only [Rel]
  exact ⟨A, c, 0, e1, e2, E.nought, fun _ => rfl, e5⟩
theorem adX_rel {x : AV} {u : Value} (h : adX x = true) (hr : Rel E σ w β x u) : ∃ ad, u = .pointer (some ad) := by
  cases x <;> try (simp [adX] at h; done)
  · simp only [Rel] at hr; obtain ⟨n, _, e⟩ := hr; exact ⟨_, e⟩
  · simp only [Rel] at hr; obtain ⟨ad, t, e, _⟩ := hr; exact ⟨_, e⟩
  · simp only [Rel] at hr; obtain ⟨ad, n, c, _, _, e⟩ := hr; exact ⟨_, e⟩
omit [Dr] in
theorem run_ptr_nil {t e : TypeId} {ad : Addr} (hu : P.underlying t = some (.pointer e)) : (Op.equal t (.pointer (some ad)) (.pointer none)).run P w = .ok false w := by
  have : ∀ d, (Op.equalIn (d + 1) t (.pointer (some ad)) (.pointer none)).run P w = .ok false w := fun d => by simp [Op.equalIn, run_underlying hu]
  exact this 9999
theorem nilX_sound {v : Value} (hC : Conc E σ τ β ⟨tm, H⟩ a w) (h : nilX P o (aeval tm) = some v) : OpOut P E σ β tm a w o H (.val v) := by
  unfold nilX at h
  split at h
  · rename_i t x y u ho
    split at h
    · rename_i e hu hy
      split at h
      · rename_i hx
        obtain rfl := Option.some.inj h
        obtain ⟨ad, e1⟩ := adX_rel hx (aeval_rel hC x)
        have h2 := aeval_rel hC y
        rw [show aeval (St.mk tm H).tmps y = _ from hy] at h2
        simp only [Rel] at h2
        refine OpOut.same hC (v := .bool false) ?_ (by simp [Rel])
        simp [execOp, ho, e1, h2, eqGuard, binOp, run_ptr_nil hu]
      · cases h
    · cases h
  · rename_i t x y u ho
    split at h
    · rename_i e hu hy
      split at h
      · rename_i hx
        obtain rfl := Option.some.inj h
        obtain ⟨ad, e1⟩ := adX_rel hx (aeval_rel hC x)
        have h2 := aeval_rel hC y
        rw [show aeval (St.mk tm H).tmps y = _ from hy] at h2
        simp only [Rel] at h2
        refine OpOut.same hC (v := .bool true) ?_ (by simp [Rel])
        simp [execOp, ho, e1, h2, eqGuard, binOp, run_ptr_nil hu]
      · cases h
    · cases h
  · cases h
omit [Dr] in
theorem ex_sliceS {ρ : Operand → Value} {t : TypeId} {x : Operand} {lo hi : Option Operand} {s : ByteArray} {l h : Nat} (ho : o.op = .slice t x lo hi none) (hu : P.underlying t = some .string) (hx : ρ x = .string s) (hl : BoundIs ρ lo 0 l) (hh : BoundIs ρ hi s.size h) (h1 : l ≤ h) (h2 : h ≤ s.size) :
    (execOp ρ o).run P w = .ok (.value (.string (s.extract l h))) w := by
  have hsl : (Instr.sliceAt t (ρ x) (lo.map ρ) (hi.map ρ) none).run P w = .ok (.string (s.extract l h)) w := by
    have hb : (Instr.sliceBounds false s.size s.size (lo.map ρ) (hi.map ρ) none).run P w = .ok (l, h, s.size) w := by
      cases lo <;> cases hi <;> simp only [BoundIs] at hl hh
      · subst hl hh; simp [Instr.sliceBounds]
      · obtain ⟨k, i, hk, rfl⟩ := hh; subst hl
        simp [Instr.sliceBounds, hk, Instr.sliceBound, asIntOf, h2]
      · obtain ⟨k, i, hk, rfl⟩ := hl; subst hh
        simp [Instr.sliceBounds, hk, Instr.sliceBound, asIntOf, h1]
      · obtain ⟨k, i, hk, rfl⟩ := hl; obtain ⟨k', i', hk', rfl⟩ := hh
        simp [Instr.sliceBounds, hk, hk', Instr.sliceBound, asIntOf, h1, h2]
    simp [Instr.sliceAt, Instr.slice, run_underlying hu, hx, hb]
  simp [execOp, ho, hsl]
theorem cutS_sound {t : TypeId} {x : Operand} {lo hi : Option Operand} {y : AV} (hC : Conc E σ τ β ⟨tm, H⟩ a w) (ho : o.op = .slice t x lo hi none) (h : cutS P tm t (aeval tm x) lo hi = some (true, y)) : OpOut P E σ β tm a w o H y := by
  have hx := aeval_rel hC x
  unfold cutS at h
  split at h
  · rename_i s hu hv
    rw [show aeval (St.mk tm H).tmps x = _ from hv] at hx
    simp only [Rel] at hx
    split at h
    · rename_i l hh hl hhi
      simp only [Option.some.injEq, Prod.mk.injEq, Bool.and_eq_true, decide_eq_true_eq] at h
      obtain ⟨⟨h0, h1, h2⟩, rfl⟩ := h
      exact OpOut.same hC (ex_sliceS (l := l.toNat) (h := hh.toNat) ho hu hx (bound_is hC hl h0) (bound_is hC hhi (by omega)) (by omega) (by omega)) (by simp [Rel])
    · cases h
  · cases h
theorem cutR_sound {t : TypeId} {x : Operand} {lo hi : Option Operand} {H' : List AB} {y : AV} (hC : Conc E σ τ β ⟨tm, H⟩ a w) (ho : o.op = .slice t x lo hi none) (h : cutR P tm H t (aeval tm x) lo hi = some (true, H', y)) : OpOut P E σ β tm a w o H' y := by
  have hx := aeval_rel hC x
  unfold cutR at h
  split at h
  case h_2 => cases h
  rename_i e r hu hv
  rw [show aeval (St.mk tm H).tmps x = _ from hv] at hx
  simp only [Rel] at hx
  split at h
  case h_2 => cases h
  rename_i T e' xs hr
  split at h
  case h_2 => cases h
  rename_i l hh hsz hl hhi
  simp only [Option.some.injEq, Prod.mk.injEq, Bool.and_eq_true, decide_eq_true_eq] at h
  obtain ⟨⟨h0, h1, h2⟩, rfl, rfl⟩ := h
  obtain ⟨ti, hti, hbeq⟩ := Option.map_eq_some_iff.1 hsz
  have hsz : (P.info? e).map (·.size) = some T.sz := by rw [hti]; simpa using Nat.eq_of_beq_eq_true hbeq
  have hsz : (P.info? e).map (·.size) = some T.kd.sz := hsz
  obtain ⟨σ', f1, f2, f3⟩ := conc_freeze hC hr
  have hsv := f3 _ hx.1
  simp only [Rel] at hsv
  obtain ⟨A, c, t', e1, e2, e3, e4, e5⟩ := hsv
  have hlen : ((xs.take hh.toNat).drop l.toNat).length = hh.toNat - l.toNat := by simp; omega
  have hrun := ex_slice (P := P) (w := w) (l := l.toNat) (h := hh.toNat) ho hu hsz e1 (bound_is hC hl h0) (bound_is hC hhi (by omega)) (by omega) (by omega)
  rw [← hlen] at hrun
  refine OpGives.val σ' hrun ⟨τ, β, ⟨[], by simp⟩, f1, f2, ?_⟩
  simp only [Rel]
  exact ⟨_, _, t', rfl, by omega, e3, e4, (e5.take hh.toNat).drop l.toNat c (by simp; omega)⟩
omit [Dr] in
theorem cutR_pres {t : TypeId} {x : AV} {lo hi : Option Operand} {H' : List AB} {y : AV} {c : Bool} (h : cutR P tm H t x lo hi = some (c, H', y)) : HPres H H' := by
  unfold cutR at h
  split at h
  case h_2 => cases h
  split at h
  case h_2 => cases h
  rename_i T e' xs hr
  split at h
  case h_2 => cases h
  simp only [Option.some.injEq, Prod.mk.injEq] at h
  obtain ⟨_, rfl, _⟩ := h
  exact .set hr (fun b => by simp)
theorem rd_bytes {t : Nat} {A : Option Addr} {c : Nat} {xs : List Int} (h : Rd (Ty.int .u8).kd σ t w A xs) : (Conv.bytesToString (.slice A xs.length c)).run P w = .ok (.string (bytesS xs)) w := by
  cases A with
  | none =>
    cases xs with
    | nil => rfl
    | cons x xs =>
      obtain ⟨ad, e, _⟩ := h (by simp)
      cases e
  | some ad =>
    refine run_bytesToString w ad xs.length c xs ?_
    have hl : (xs.map (Value.int .u8)).length = xs.length := by simp
    have := run_loadCells_list (P := P) w ad (xs.map (Value.int .u8)) (fun j v hj => ?_)
    · rw [hl] at this; exact this
    · simp only [List.getElem?_map, Option.map_eq_some_iff] at hj
      obtain ⟨x, hx, rfl⟩ := hj
      obtain ⟨hlt, hxe⟩ := List.getElem?_eq_some_iff.1 hx
      obtain ⟨ad', e, _, _, hcell⟩ := h (by omega)
      obtain rfl := Option.some.inj e
      obtain ⟨cs, hr, hcs⟩ := hcell j hlt
      have hr : cs = [.int .u8 xs[j]] := hr
      subst hr
      have := hcs 0 (.int .u8 xs[j]) rfl
      rw [hxe] at this
      simpa [Ty.kd, Ty.sz] using this
theorem b2s_sound {src dst : TypeId} {x : Operand} {y : AV} (hC : Conc E σ τ β ⟨tm, H⟩ a w) (ho : o.op = .convert src dst x) (h : b2sX P H src dst (aeval tm x) = some y) : OpOut P E σ β tm a w o H y := by
  have hx := aeval_rel hC x
  unfold b2sX at h
  split at h
  case h_2 => cases h
  rename_i e hs hd
  split at h
  case h_2 => cases h
  rename_i he
  have fin : ∀ {A : Option Addr} {n c : Nat} {s : ByteArray}, a.eval x = .slice A n c → (Conv.bytesToString (.slice A n c)).run P w = .ok (.string s) w → OpOut P E σ β tm a w o H (.val (.string s)) := by
    intro A n c s hv hrun
    refine OpOut.same hC (v := .string s) ?_ (by simp [Rel])
    have : (convert src dst (a.eval x)).run P w = .ok (.string s) w := by
      rw [hv]
      cases A <;> simp [convert, run_underlying hs, run_underlying hd, run_underlying he, hrun]
    simp only [execOp, ho, Sem.run_bind, Sem.run_map, this]
    rfl
  split at h
  · rename_i p xs hv
    rw [show aeval (St.mk tm H).tmps x = _ from hv] at hx
    simp only [Rel] at hx
    obtain ⟨A, c, t', e1, e2, e3, e4, e5⟩ := hx
    obtain rfl := Option.some.inj h
    exact fin e1 (rd_bytes e5)
  · rename_i r hv
    rw [show aeval (St.mk tm H).tmps x = _ from hv] at hx
    simp only [Rel] at hx
    split at h
    · rename_i e' xs hr
      obtain rfl := Option.some.inj h
      have hO : Own (Ty.int .u8).kd e' σ (τ r) w (a.eval x) xs := hC.look hr hx.1
      obtain ⟨A, c, e1, _, _, e5⟩ := hO.rd
      exact fin e1 (rd_bytes e5)
    · cases h
  · rename_i hv
    rw [show aeval (St.mk tm H).tmps x = _ from hv] at hx
    simp only [Rel] at hx
    obtain rfl := Option.some.inj h
    exact fin hx rfl
  · cases h
end
end Go.Am

/- The abstract machine, part 31: containers of things: maps of rows. No statement of its own. -/
namespace Go.Am
open Go.Vk Go.RowKit
set_option linter.unusedVariables false
set_option linter.unusedSimpArgs false
variable [Dr]
/-! ### places of keys -/
section
variable {K : Ty} {B B' : Type}
omit [Dr] in
theorem gpos_at : ∀ {L : Gp K B} {k : K.Den} {i j : Nat} {v : B}, gfind K L k i = some (j, v) → ∃ k', L[gpos K L k]? = some (some (k', v)) ∧ eqT K k k' = true
  | [], _, _, _, _, h => by simp [gfind] at h
  | none :: l, k, i, j, v, h => by
    simp only [gfind] at h
    simpa [gpos] using gpos_at h
  | some (k', v') :: l, k, i, j, v, h => by
    simp only [gfind] at h
    cases he : eqT K k k' with
    | true =>
      rw [he] at h
      simp only [cond_true, Option.some.injEq, Prod.mk.injEq] at h
      exact ⟨k', by simp [gpos, he, h.2], he⟩
    | false => rw [he] at h; simpa [gpos, he] using gpos_at h
omit [Dr] in
theorem gset_self : ∀ (L : Gp K B) (k : K.Den) (v : B), ∃ k', (gset K L k v)[gpos K L k]? = some (some (k', v))
  | [], k, v => ⟨k, rfl⟩
  | none :: l, k, v => by simpa [gset, gpos] using gset_self l k v
  | some (k', v') :: l, k, v => by
    cases he : eqT K k k' with
    | true => exact ⟨k', by simp [gset, gpos, he]⟩
    | false => simpa [gset, gpos, he] using gset_self l k v
omit [Dr] in
theorem gset_other : ∀ (L : Gp K B) (k : K.Den) (v : B) (q : Nat), q ≠ gpos K L k → (gset K L k v)[q]? = L[q]?
  | [], k, v, q, hq => by
    cases q with
    | zero => exact absurd rfl hq
    | succ q => simp [gset]
  | none :: l, k, v, q, hq => by
    cases q with
    | zero => simp [gset]
    | succ q => simpa [gset] using gset_other l k v q (fun h => hq (by simp [gpos, h]))
  | some (k', v') :: l, k, v, q, hq => by
    cases he : eqT K k k' with
    | true =>
      cases q with
      | zero => exact absurd (by simp [gpos, he]) hq
      | succ q => simp [gset, he]
    | false =>
      cases q with
      | zero => simp [gset, he]
      | succ q => simpa [gset, he] using gset_other l k v q (fun h => hq (by simp [gpos, he, h]))
omit [Dr] in
theorem gpos_map (f : B → B') : ∀ (L : Gp K B) (k : K.Den), gpos K (L.map (Option.map fun p => (p.1, f p.2))) k = gpos K L k
  | [], k => rfl
  | none :: l, k => by simp only [List.map_cons, Option.map_none, gpos, gpos_map f l k]
  | some (k', v') :: l, k => by simp only [List.map_cons, Option.map_some, gpos, gpos_map f l k]
omit [Dr] in
theorem gget_map (f : B → B') : ∀ (L : Gp K B) (k : K.Den), gget K (L.map (Option.map fun p => (p.1, f p.2))) k = (gget K L k).map f
  | [], k => rfl
  | none :: l, k => by simp only [List.map_cons, Option.map_none, gget, gget_map f l k]
  | some (k', v') :: l, k => by
    simp only [List.map_cons, Option.map_some, gget, gget_map f l k]
    cases eqT K k k' <;> rfl
omit [Dr] in
theorem gset_map (f : B → B') : ∀ (L : Gp K B) (k : K.Den) (v : B), gset K (L.map (Option.map fun p => (p.1, f p.2))) k (f v) = (gset K L k v).map (Option.map fun p => (p.1, f p.2))
  | [], k, v => rfl
  | none :: l, k, v => by simp only [List.map_cons, Option.map_none, gset, gset_map f l k]
  | some (k', v') :: l, k, v => by
    simp only [List.map_cons, Option.map_some, gset, gset_map f l k]
    cases eqT K k k' <;> rfl
omit [Dr] in
theorem glen_map (f : B → B') : ∀ (L : Gp K B), glen K (L.map (Option.map fun p => (p.1, f p.2))) = glen K L
  | [] => rfl
  | none :: l => by simp only [List.map_cons, Option.map_none, glen, glen_map f l]
  | some (k', v') :: l => by simp only [List.map_cons, Option.map_some, glen, glen_map f l]
end
/-! ### types -/
def tyD (P : Program) (vt : TypeId) : Option ED :=
  match P.underlying vt with
  | some (.slice e) => match tyOf P 20 e with
    | some T => some (.row T e)
    | none => none
  | some (.map _ _) => match makeX P vt with
    | some m => some (.map m)
    | none => none
  | some (.pointer C) => match tyOf P 20 C with
    | some T => some (.cell C T)
    | none => none
  | _ => none
def makeXD (P : Program) (t : TypeId) : Option (MTy × ED) :=
  match P.underlying t with
  | some (.map kt vt) => match tyD P vt with
    | some d => match tyOf P 30 kt with
      | some K => some (⟨kt, vt, aggB P kt, K, false, .bool⟩, d)
      | none => none
    | none => none
  | _ => none
/-- the abstract block of a thing -/
def ED.ab : (d : ED) → d.Den → AB
  | .row T e, xs => .row T e xs
  | .map m, xs => .map m xs
  | .cell C T, x => .cells C (enc T x)
section
variable {P : Program} {E : Env} {σ σ1 : Gh} {τ : Nat → Nat} {w w1 : World} {β : List Value} {tm : List AV} {H : List AB} {a : Act} {o : Oper}
/-- The source with a block that is gone. -/
theorem conc_gone {i : Nat} (hC : Conc E σ τ β ⟨tm, H⟩ a w) : Conc E σ τ β ⟨tm, H.set i .gone⟩ a w := by
  have hg : ∀ (j : Nat) (z : AB), (H.set i .gone)[j]? = some z → z.live = true → H[j]? = some z := fun j z hz hl => by
    rw [List.getElem?_set] at hz
    by_cases hij : i = j
    · rw [if_pos hij] at hz
      split at hz
      · obtain rfl := Option.some.inj hz; cases hl
      · cases hz
    · rwa [if_neg hij] at hz
  refine ⟨hC.defers, hC.tmps, by rw [hC.size]; simp, fun j z u hz hu => ?_, fun j z hz hl => hC.apart j z (hg j z hz hl) hl, fun j k z y hz hy h1 h2 he => hC.inj j k z y (hg j z hz h1) (hg k y hy h2) h1 h2 he⟩
  simp only at hz
  rw [List.getElem?_set] at hz
  by_cases hij : i = j
  · rw [if_pos hij] at hz
    split at hz
    · obtain rfl := Option.some.inj hz; trivial
    · cases hz
  · rw [if_neg hij] at hz; exact hC.heap j z u hz hu
omit [Dr] in
theorem gone_get {i j : Nat} {y : AB} (hy : (H.set i .gone)[j]? = some y) (hl : y.live = true) : H[j]? = some y ∧ j ≠ i := by
  rw [List.getElem?_set] at hy
  by_cases hij : i = j
  · rw [if_pos hij] at hy
    split at hy
    · obtain rfl := Option.some.inj hy; cases hl
    · cases hy
  · rw [if_neg hij] at hy; exact ⟨hy, fun h => hij h.symm⟩
/-- A block comes back. -/
theorem conc_back {b t : Nat} {v : Value} {x z0 : AB} (hC : Conc E σ τ β ⟨tm, H⟩ a w) (hb : H[b]? = some z0) (hv : β[b]? = some v) (hB : BRel E σ w β t v x) (hP : ¬ E.Kp t) (ht : ∀ (i : Nat) y, H[i]? = some y → y.live = true → τ i ≠ t) :
    Conc E σ (updT τ b t) β ⟨tm, H.set b x⟩ a w := by
  have hset : ∀ (i : Nat) (y : AB), (H.set b x)[i]? = some y → (H[i]? = some y ∧ i ≠ b ∧ updT τ b t i = τ i) ∨ (i = b ∧ y = x ∧ updT τ b t i = t) := by
    intro i y hy
    rw [List.getElem?_set] at hy
    by_cases hij : b = i
    · rw [if_pos hij] at hy
      split at hy
      · exact .inr ⟨hij.symm, (Option.some.inj hy).symm, by simp [updT, hij]⟩
      · cases hy
    · rw [if_neg hij] at hy
      exact .inl ⟨hy, fun h => hij h.symm, by simp only [updT]; rw [if_neg (fun h => hij h.symm)]⟩
  refine ⟨hC.defers, hC.tmps, by rw [hC.size]; simp, fun i y u hy hu => ?_, fun i y hy hl => ?_, fun i j y z hy hz hl hk he => ?_⟩
  · rcases hset i y hy with ⟨h1, _, h3⟩ | ⟨rfl, rfl, h3⟩
    · rw [h3]; exact hC.heap i y u h1 hu
    · rw [hv] at hu
      obtain rfl := Option.some.inj hu
      rw [h3]; exact hB
  · rcases hset i y hy with ⟨h1, _, h3⟩ | ⟨rfl, rfl, h3⟩
    · rw [h3]; exact hC.apart i y h1 hl
    · rw [h3]; exact hP
  · rcases hset i y hy with ⟨h1, _, h3⟩ | ⟨rfl, rfl, h3⟩
    · rcases hset j z hz with ⟨k1, _, k3⟩ | ⟨rfl, rfl, k3⟩
      · rw [h3, k3] at he; exact hC.inj i j y z h1 k1 hl hk he
      · rw [h3, k3] at he; exact absurd he (ht i y h1 hl)
    · rcases hset j z hz with ⟨k1, _, k3⟩ | ⟨rfl, rfl, k3⟩
      · rw [h3, k3] at he; exact absurd he.symm (ht j z k1 hk)
      · rfl

theorem brel_dead {t : Nat} {v : Value} : ∀ {x : AB}, x.live = false → BRel E σ w β t v x
  | .gone, _ => trivial
  | .lock x, h => brel_dead (x := x) h
  | .cells _ _, h => by cases h
  | .row _ _ _, h => by cases h
  | .map _ _, h => by cases h
  | .rowD .., h => by cases h
  | .mapD .., h => by cases h
  | .mapZ .., h => by cases h
  | .iter _ _, h => by cases h
omit [Dr] in
theorem kill_get {i j : Nat} {y z : AB} (hz : z.live = false) (hy : (H.set i z)[j]? = some y) (hl : y.live = true) : H[j]? = some y ∧ j ≠ i := by
  rw [List.getElem?_set] at hy
  by_cases hij : i = j
  · rw [if_pos hij] at hy
    split at hy
    · obtain rfl := Option.some.inj hy; rw [hz] at hl; cases hl
    · cases hy
  · rw [if_neg hij] at hy; exact ⟨hy, fun h => hij h.symm⟩
theorem conc_kill {i : Nat} {z : AB} (hC : Conc E σ τ β ⟨tm, H⟩ a w) (hz : z.live = false) : Conc E σ τ β ⟨tm, H.set i z⟩ a w := by
  refine ⟨hC.defers, hC.tmps, by rw [hC.size]; simp, fun j y u hy hu => ?_, fun j y hy hl => hC.apart j y (kill_get hz hy hl).1 hl, fun j k y y' hy hy' h1 h2 he => hC.inj j k y y' (kill_get hz hy h1).1 (kill_get hz hy' h2).1 h1 h2 he⟩
  simp only at hy
  cases hl : y.live with
  | false => exact brel_dead hl
  | true => exact hC.heap j y u (kill_get hz hy hl).1 hu
theorem Conc.evC {C : Nat → Prop} (hC : Conc E σ τ β ⟨tm, H⟩ a w) (e : EvT C σ w σ1 w1) (hP : ∀ t, (E.Pr t ∨ E.It t) → ¬ C t) (hl : ∀ (i : Nat) y, H[i]? = some y → y.live = true → ¬ C (τ i)) : Conc E σ1 τ β ⟨tm, H⟩ a w1 :=
  ⟨hC.defers, RelL.ev e hP hC.tmps, hC.size, fun i x v hx hv => BRel.ev (hC.heap i x v hx hv) e hP (hl i x hx), hC.apart, hC.inj⟩
theorem Thg.brel {t : Nat} {u : Value} : ∀ {d : ED} {x : d.Den}, Thg σ w t u d x → BRel E σ w β t u (d.ab x)
  | .row T e, xs, h => h
  | .map m, xs, h => h
  | .cell C T, x, h => by
    obtain ⟨n, vs, h1, h2, h3⟩ := h
    exact ⟨n, vs, h1, h2, enc_rel T h3⟩
omit [Dr] in
theorem ab_live : ∀ {d : ED} {x : d.Den}, (d.ab x).live = true
  | .row T e, xs => rfl
  | .map m, xs => rfl
  | .cell C T, x => rfl
/-- the tag of one block is turned -/
def turn1 (σ : Gh) (u : Value) (t : Nat) : Gh :=
  match hbV u with
  | some g => upd σ g t
  | none => σ
omit [Dr] in
theorem turn1_hit {u : Value} {t g : Nat} (h : hbV u = some g) : turn1 σ u t g = t := by simp [turn1, h, upd]
omit [Dr] in
theorem turn1_other {u : Value} {t b : Nat} (h : hbV u ≠ some b) : turn1 σ u t b = σ b := by
  unfold turn1
  cases hg : hbV u with
  | none => rfl
  | some g =>
    simp only [upd]
    rw [if_neg (fun e => h (by rw [hg, e]))]
theorem turn1_ev {u : Value} {t t' : Nat} {d : ED} {x : d.Den} (h : Thg σ w t u d x) : EvT (fun s => s = t) σ w (turn1 σ u t') w :=
  ⟨rfl, rfl, rfl, fun _ => Nat.le_refl _, Nat.le_refl _, fun b hb hn => ⟨turn1_other (fun e => hn (h.blk e).1), rfl⟩⟩
/-- A thing of a container is lent. -/
theorem conc_lend {b : Nat} {x0 y : AB} {v u : Value} {d : ED} {x : d.Den} (hC : Conc E σ τ β ⟨tm, H⟩ a w) (hb : H[b]? = some x0) (hl : x0.live = true) (hv : β[b]? = some v) (hT : Thg σ w (τ b) u d x)
    (hy : ∀ t', (∀ b, hbV u ≠ some b → turn1 σ u t' b = σ b) → BRel E (turn1 σ u t') w (β ++ [u]) (τ b) v y) :
    ∃ σ' τ' β', (∃ s, β' = β ++ s) ∧ EvT (Rng E) σ w σ' w ∧ Conc E σ' τ' β' ⟨tm, H.set b y ++ [d.ab x]⟩ a w ∧ β'[H.length]? = some u := by
  have hsz := hC.size
  simp only at hsz
  obtain ⟨t', hP, ht⟩ := conc_fresh hC
  have hKb := hC.apart b _ hb hl
  have hev : EvT (fun s => s = τ b) σ w (turn1 σ u t') w := turn1_ev hT
  have h1 : Conc E (turn1 σ u t') τ β ⟨tm, H.set b .gone⟩ a w := Conc.evC (conc_gone hC) hev (fun t hp e => hKb (e ▸ E.sub _ hp)) (fun i y hy hl' e => by
    obtain ⟨g1, g2⟩ := gone_get hy hl'
    exact g2 (hC.inj i b y x0 g1 hb hl' hl e))
  have hpos : 1 ≤ τ b := Nat.one_le_iff_ne_zero.2 fun e => hKb (e ▸ E.sub _ (.inl E.nought))
  have h2 := conc_new (x := d.ab x) (v := u) (t := t') h1 .refl hP (fun i y hy hl' => ht i y (gone_get hy hl').1 hl')
    (Thg.brel (hT.turn (fun q hq h0 => (turn1_other (fun e => by have := (hT.blk e).1; omega)).trans h0) (fun g hg => turn1_hit hg)))
  have hlt : b < H.length := (List.getElem?_eq_some_iff.1 hb).1
  have hlen : (H.set b .gone).length = H.length := by simp
  rw [hlen] at h2
  have h3 := conc_back (z0 := .gone) (b := b) (t := τ b) (v := v) (x := y) h2 (by rw [List.getElem?_append_left (by simpa using hlt)]; simp [hlt]) (by rw [List.getElem?_append_left (by omega)]; exact hv) (hy t' (fun b h => turn1_other h)) hKb
    (fun i z hz hl' => by
      rcases Nat.lt_or_ge i H.length with hi | hi
      · rw [List.getElem?_append_left (by simpa using hi)] at hz
        obtain ⟨g1, g2⟩ := gone_get hz hl'
        simp only [updT, Nat.ne_of_lt hi, if_false]
        exact fun e => g2 (hC.inj i b z x0 g1 hb hl' hl e)
      · have h0 : i = H.length := by
          have := (List.getElem?_eq_some_iff.1 hz).1
          simp at this
          omega
        subst h0
        simp only [updT, if_true]
        exact fun e => ht b x0 hb hl e.symm)
  refine ⟨turn1 σ u t', updT (updT τ H.length t') b (τ b), β ++ [u], ⟨_, rfl⟩, hev.mono (fun s h hk => hKb (h ▸ hk)), ?_, ?_⟩
  · have e1 : (H.set b .gone ++ [d.ab x]).set b y = H.set b y ++ [d.ab x] := by
      rw [List.set_append_left _ _ (by simpa using hlt), List.set_set]
    rw [e1] at h3
    exact h3
  · rw [← hsz]; simp
end
end Go.Am

/- The abstract machine, part 32: maps of rows: lookups that lend, updates that give back. No statement of its own. -/
namespace Go.Am
open Go.Vk Go.RowKit
set_option linter.unusedVariables false
set_option linter.unusedSimpArgs false
variable [Dr]
def mapXD (P : Program) (t : TypeId) : Option AB → Option ((m : MTy) × (d : ED) × Gp m.K d.Den × Option (Nat × Nat))
  | some (.mapD m d xs l) => match P.underlying t with
    | some (.map kt vt) => match Nat.beq kt m.kt && (Nat.beq vt m.vt && keyB P m.ka m.kt m.K) with
      | true => some ⟨m, d, xs, l⟩
      | false => none
    | _ => none
  | _ => none
/-- A row of a map is lent. -/
def lookXD (P : Program) (H : List AB) (t : TypeId) (x k : AV) (ok : Bool) : Option (List AB × AV) :=
  match x with
  | .map b => match mapXD P t H[b]? with
    | some ⟨m, .row T e, xs, none⟩ => match decF m.ka m.K k, (P.info? m.vt).bind (·.zero) with
      | some key, some (.slice none 0 0) => some (H.set b (.mapD m (.row T e) xs (some (gpos m.K xs key, H.length))) ++ [.row T e ((gget m.K xs key).getD [])], resA ok (.row H.length) (gget m.K xs key).isSome)
      | _, _ => none
    | _ => none
  | _ => none
/-- A row is laid into a map. -/
def updXD (P : Program) (H : List AB) (t : TypeId) (x k v : AV) : Option (Bool × List AB) :=
  match x, v with
  | .map b, .row r => match mapXD P t H[b]?, H[r]? with
    | some ⟨m, .row T e, xs, l⟩, some (.row T' e' ys) => match tyEq T' T, natEq e' e, decF m.ka m.K k with
      | some ⟨hT⟩, some _, some key => match l with
        | none => some (true, (H.set r .gone).set b (.mapD m (.row T e) (gset m.K xs key (castL hT ys)) none))
        | some (p, _) => some (Nat.beq (gpos m.K xs key) p, (H.set r .gone).set b (.mapD m (.row T e) (gset m.K xs key (castL hT ys)) none))
      | _, _, _ => none
    | _, _ => none
  | _, _ => none
def mlenXD (P : Program) (H : List AB) (t : TypeId) (x : AV) : Option AV :=
  match x with
  | .map b => match mapXD P t (look H b) with
    | some ⟨m, d, xs, _⟩ => some (.val (.int .i64 (glen m.K xs)))
    | none => none
  | _ => none
section
variable {P : Program} {E : Env} {σ σ1 : Gh} {τ : Nat → Nat} {w w1 : World} {β : List Value} {tm : List AV} {H : List AB} {a : Act} {o : Oper}
omit [Dr] in
theorem mapXD_some {t : TypeId} {ob : Option AB} {r} (h : mapXD P t ob = some r) : ob = some (.mapD r.1 r.2.1 r.2.2.1 r.2.2.2) ∧ P.underlying t = some (.map r.1.kt r.1.vt) ∧ keyB P r.1.ka r.1.kt r.1.K = true := by
  unfold mapXD at h
  split at h
  · rename_i m d xs l
    split at h
    · rename_i kt vt hu
      split at h
      · rename_i hb
        simp only [Bool.and_eq_true] at hb
        obtain ⟨h1, h2, h3⟩ := hb
        obtain rfl := Nat.eq_of_beq_eq_true h1
        obtain rfl := Nat.eq_of_beq_eq_true h2
        obtain rfl := Option.some.inj h
        exact ⟨rfl, hu, h3⟩
      · cases h
    · cases h
  · cases h
theorem Thg.keep {t : Nat} {u : Value} (e : EvT (fun s => s = t) σ w σ w1) (ht : 1 ≤ t) (hk : ∀ g, hbV u = some g → w1.heap[g]? = w.heap[g]?) : ∀ {d : ED} {x : d.Den}, Thg σ w t u d x → Thg σ w1 t u d x
  | .row T et, xs, h => by
    have e1 : Ev t (t + 1) σ w σ w1 := ⟨e.os, e.tape, e.output, e.drawn, e.size, fun b hb hn => e.keep b hb (by omega)⟩
    obtain ⟨cs, h1, h2, h3⟩ := h
    rcases h1.2 with ⟨rfl, hn⟩ | ⟨g, cap, cur, rfl, hb, hh, hr⟩
    · exact ⟨cs, ⟨h1.1, .inl ⟨rfl, hn⟩⟩, h2, h3.ev e1 ht⟩
    · exact ⟨cs, ⟨h1.1, .inr ⟨g, cap, cur, rfl, hb, (hk g (by simp [hbV])).trans hh, hr⟩⟩, h2, h3.ev e1 ht⟩
  | .map m, xs, h => by
    obtain ⟨n, es, rfl, h2, h3, h4⟩ := h
    exact ⟨n, es, rfl, (hk n (by simp [hbV])).trans h2, h3, h4⟩
  | .cell Ct T, x, h => by
    have e1 : Ev t (t + 1) σ w σ w1 := ⟨e.os, e.tape, e.output, e.drawn, e.size, fun b hb hn => e.keep b hb (by omega)⟩
    obtain ⟨n, vs, rfl, h2, h3⟩ := h
    exact ⟨n, vs, rfl, ⟨h2.1, (hk n (by simp [hbV])).trans h2.2⟩, repTy_ev T h3 e1 ht⟩
omit [Dr] in
theorem nolent {i : Nat} : ¬ lnO none i := by rintro ⟨b, h⟩; cases h
/-- What a container is when one of its things is lent. -/
theorem lend_brel {m : MTy} {d : ED} {xs : Gp m.K d.Den} {v u : Value} {n p kb t' t : Nat} {es : Array MapEntry} {L : Gp m.K (Value × d.Den)} (hpos : 1 ≤ t) (e1 : v = .map (some n)) (e2 : w.heap[n]? = some (.map es xs.length)) (e3 : σ n = t)
    (e4 : es.toList = gents m.ka m.K (fun p : Value × d.Den => p.1) 0 L) (e5 : xs = L.map (Option.map fun p => (p.1, p.2.2))) (Th : Things (fun u x => Thg σ w t u d x) (some n) (lnO none) (lkO β none) (L.map (Option.map (·.2))))
    (hp : ∀ u' x', (L.map (Option.map (·.2)))[p]? = some (some (u', x')) → u' = u) (hn : hbV u ≠ some n) (hex : ∀ g, hbV u = some g → ∃ x', (L.map (Option.map (·.2)))[p]? = some (some (u, x')))
    (ho : ∀ b, hbV u ≠ some b → turn1 σ u t' b = σ b) (hoc : ∀ b, hbV u = some b → σ b = t) (hkb : β.length = kb) : BRel E (turn1 σ u t') w (β ++ [u]) t v (.mapD m d xs (some (p, kb))) := by
  subst hkb
  refine ⟨n, es, L, e1, e2, (ho n hn).trans e3, e4, e5, fun i b h => ?_, fun i u' x' hP hnl => ?_, fun i u' x' hP hl => ?_, fun i j u1 x1 u2 x2 g h1 h2 _ _ g1 g2 => Th.inj i j u1 x1 u2 x2 g h1 h2 nolent nolent g1 g2⟩
  · obtain ⟨rfl, rfl⟩ := Prod.mk.inj (Option.some.inj h)
    simp
  · obtain ⟨q1, q2⟩ := Th.own i u' x' hP nolent
    refine ⟨q1.turn (fun q hq h0 => (ho q (fun e => by have := hoc q e; omega)).trans h0) (fun g hg => ?_), q2⟩
    rw [ho g ?_]
    · exact (q1.blk hg).1
    · intro e
      obtain ⟨x2, hx2⟩ := hex g e
      have := Th.inj i p u' x' u x2 g hP hx2 nolent nolent hg e
      exact hnl ⟨_, by rw [this]⟩
  · obtain ⟨b, hb⟩ := hl
    obtain ⟨rfl, rfl⟩ := Prod.mk.inj (Option.some.inj hb)
    have := hp u' x' hP
    subst this
    exact ⟨_, _, rfl, by simp⟩
theorem lookXD_sound {t : TypeId} {x k : Operand} {ok : Bool} {H' : List AB} {y : AV} (hC : Conc E σ τ β ⟨tm, H⟩ a w) (ho : o.op = .lookup t x k ok) (h : lookXD P H t (aeval tm x) (aeval tm k) ok = some (H', y)) : OpOut P E σ β tm a w o H' y := by
  have hx := aeval_rel hC x
  have hk := aeval_rel hC k
  unfold lookXD at h
  split at h
  case h_2 => cases h
  rename_i b hab
  rw [hab] at hx
  split at h
  case h_2 => cases h
  rename_i m T e xs hm
  obtain ⟨g1, g2, g3⟩ := mapXD_some hm
  simp only at g1 g2 g3
  split at h
  case h_2 => cases h
  rename_i key hkey hz
  obtain ⟨_, hkv⟩ := decF_rel hkey hk
  simp only [Rel] at hx
  simp only [Option.some.injEq, Prod.mk.injEq] at h
  obtain ⟨rfl, rfl⟩ := h
  obtain ⟨n, es, L, e1, e2, e3, e4, e5, e6, Th⟩ := hC.heap b _ _ g1 hx.1
  have hsz := hC.size
  simp only at hsz
  have hpos : 1 ≤ τ b := Nat.one_le_iff_ne_zero.2 fun e => hC.apart b _ g1 rfl (e ▸ E.sub _ (.inl E.nought))
  have hfind := gfind_run (P := P) (w := w) (enc := fun p : Value × (ED.row T e).Den => p.1) g3 key L 0
  have hgetL := gfind_get (K := m.K) (B := Value × (ED.row T e).Den) L key 0
  have hget : gget m.K xs key = (gget m.K L key).map (·.2) := by rw [e5]; exact gget_map (fun p : Value × (ED.row T e).Den => p.2) L key
  have hpos' : gpos m.K xs key = gpos m.K L key := by rw [e5]; exact gpos_map (fun p : Value × (ED.row T e).Den => p.2) L key
  have hzr : (zeroValue m.vt).run P w = .ok (.slice none 0 0) w := by
    obtain ⟨i, hi, hzz⟩ := Option.bind_eq_some_iff.1 hz
    simp [zeroValue, typeInfo, hi, hzz]
  have key2 : ∃ (u : Value) (hs : Bool), (Instr.lookup t (a.eval x) (a.eval k) ok).run P w = .ok (resV ok u hs) w ∧ hs = (gget m.K xs key).isSome ∧ Thg σ w (τ b) u (.row T e) ((gget m.K xs key).getD []) ∧
      (∀ u' x', (L.map (Option.map (·.2)))[gpos m.K xs key]? = some (some (u', x')) → u' = u) ∧ hbV u ≠ some n ∧ (∀ g, hbV u = some g → ∃ x', (L.map (Option.map (·.2)))[gpos m.K xs key]? = some (some (u, x'))) := by
    cases hf : gfind m.K L key 0 with
    | none =>
      refine ⟨.slice none 0 0, false, ?_, ?_, ?_, fun u' x' hp => ?_, by simp [hbV], fun g hg => by simp [hbV] at hg⟩
      · unfold Instr.lookup
        simp only [Sem.run_bind, run_underlying g2, Result.andThen_ok]
        rw [e1, hkv]
        simp only [Sem.run_bind, MapKept.run_getObj_map e2, Result.andThen_ok, Sem.run_pure, keyB_check (w := w) g3, e4, hfind, hf, Option.map_none, hzr]
        cases ok <;> rfl
      · rw [hget, hgetL, hf]; rfl
      · rw [hget, hgetL, hf]; exact Own.nil
      · rw [hpos', gpos_new hf] at hp
        simp at hp
    | some r =>
      obtain ⟨i, u, x0⟩ := r
      obtain ⟨k', h1, h2⟩ := gpos_at hf
      have hP : (L.map (Option.map (·.2)))[gpos m.K xs key]? = some (some (u, x0)) := by rw [hpos', List.getElem?_map, h1]; rfl
      obtain ⟨q1, q2⟩ := Th.own _ u x0 hP nolent
      refine ⟨u, true, ?_, ?_, ?_, fun u' x' hp => ?_, fun e => q2 n e rfl, fun g hg => ⟨x0, hP⟩⟩
      · unfold Instr.lookup
        simp only [Sem.run_bind, run_underlying g2, Result.andThen_ok]
        rw [e1, hkv]
        simp only [Sem.run_bind, MapKept.run_getObj_map e2, Result.andThen_ok, Sem.run_pure, keyB_check (w := w) g3, e4, hfind, hf, Option.map_some]
        cases ok <;> rfl
      · rw [hget, hgetL, hf]; rfl
      · rw [hget, hgetL, hf]; exact q1
      · rw [hP] at hp
        exact (Prod.mk.inj (Option.some.inj (Option.some.inj hp))).1.symm
  obtain ⟨u, hs, hrun, rfl, hT, hp1, hp2, hp3⟩ := key2
  obtain ⟨σ', τ', β', hb1, hev, hC', hbk⟩ := conc_lend (d := .row T e) (y := .mapD m (.row T e) xs (some (gpos m.K xs key, H.length))) hC g1 rfl hx.1 hT
    (fun t' ht' => lend_brel hpos e1 e2 e3 e4 e5 Th hp1 hp2 hp3 ht' (fun b hb => (hT.blk hb).1) hsz)
  refine OpGives.val σ' (v := resV ok u (gget m.K xs key).isSome) (w' := w) ?_ ⟨τ', β', hb1, hev, hC', ?_⟩
  · simp only [execOp, ho, Sem.run_bind, Sem.run_map, hrun]
    rfl
  · have hr : Rel E σ' w β' (.row H.length) u := by simp only [Rel]; exact ⟨hbk, hT.one⟩
    cases ok with
    | false => exact hr
    | true =>
      simp only [resA, resV, Rel]
      refine ⟨[u, .bool _], rfl, ?_⟩
      simp only [RelL]
      exact ⟨_, _, rfl, hr, _, _, rfl, by simp [Rel], rfl⟩
/-- A map of things, with a thing of another block laid into it. -/
theorem conc_give {b r n : Nat} {m : MTy} {d : ED} {xs : Gp m.K d.Den} {l : Option (Nat × Nat)} {key : m.K.Den} {es es' : Array MapEntry} {L : Gp m.K (Value × d.Den)} {v u : Value} {x0 : AB} {y : d.Den} (hC : Conc E σ τ β ⟨tm, H⟩ a w) (hb : H[b]? = some (.mapD m d xs l)) (hv : β[b]? = some v)
    (hr : H[r]? = some x0) (hrl : x0.live = true) (hbr : b ≠ r) (e1 : v = .map (some n)) (e2 : w.heap[n]? = some (.map es xs.length)) (e3 : σ n = τ b) (e5 : xs = L.map (Option.map fun p => (p.1, p.2.2)))
    (Th : Things (fun u x => Thg σ w (τ b) u d x) (some n) (lnO l) (lkO β l) (L.map (Option.map (·.2)))) (hT : Thg σ w (τ r) u d y) (hl : ∀ i, lnO l i → i = gpos m.K L key)
    (he : es'.toList = gents m.ka m.K (fun p : Value × d.Den => p.1) 0 (gset m.K L key (u, y))) :
    ∃ σ' τ', EvT (Rng E) σ w σ' { w with heap := w.heap.setIfInBounds n (.map es' (gset m.K xs key y).length) } ∧ Conc E σ' τ' β ⟨tm, (H.set r .gone).set b (.mapD m d (gset m.K xs key y) none)⟩ a { w with heap := w.heap.setIfInBounds n (.map es' (gset m.K xs key y).length) } := by
  have hKb := hC.apart b _ hb rfl
  have hKr := hC.apart r _ hr hrl
  have hne : τ r ≠ τ b := fun e => hbr (hC.inj b r _ _ hb hr rfl hrl e.symm)
  have hpb : 1 ≤ τ b := Nat.one_le_iff_ne_zero.2 fun e => hKb (e ▸ E.sub _ (.inl E.nought))
  have hpr : 1 ≤ τ r := Nat.one_le_iff_ne_zero.2 fun e => hKr (e ▸ E.sub _ (.inl E.nought))
  have hev1 : EvT (fun s => s = τ r) σ w (fun q => if σ q = τ r then τ b else σ q) w := ⟨rfl, rfl, rfl, fun _ => Nat.le_refl _, Nat.le_refl _, fun q hq hn => ⟨if_neg hn, rfl⟩⟩
  have hn1 : (fun q => if σ q = τ r then τ b else σ q) n = τ b := by simp only; rw [if_neg (by rw [e3]; exact fun e => hne e.symm)]; exact e3
  have hev2 : EvT (fun s => s = τ b) (fun q => if σ q = τ r then τ b else σ q) w (fun q => if σ q = τ r then τ b else σ q) { w with heap := w.heap.setIfInBounds n (.map es' (gset m.K xs key y).length) } := by
    have h0 := ev_map (σ := fun q => if σ q = τ r then τ b else σ q) (es' := es') (c' := (gset m.K xs key y).length) e2
    exact h0.mono (fun s hs => hs.trans hn1)
  have hlive : ∀ (i : Nat) z, ((H.set r .gone).set b .gone)[i]? = some z → z.live = true → τ i ≠ τ r ∧ τ i ≠ τ b := fun i z hz hl' => by
    obtain ⟨k1, k2⟩ := gone_get hz hl'
    obtain ⟨k3, k4⟩ := gone_get k1 hl'
    exact ⟨fun e => k4 (hC.inj i r z x0 k3 hr hl' hrl e), fun e => k2 (hC.inj i b z _ k3 hb hl' rfl e)⟩
  have h1 := Conc.evC (conc_gone (i := b) (conc_gone (i := r) hC)) hev1 (fun t hp e => hKr (e ▸ E.sub _ hp)) (fun i z hz hl' => (hlive i z hz hl').1)
  have h2 := Conc.evC h1 hev2 (fun t hp e => hKb (e ▸ E.sub _ hp)) (fun i z hz hl' => (hlive i z hz hl').2)
  have hlt : b < H.length := (List.getElem?_eq_some_iff.1 hb).1
  have hnlt := (Array.getElem?_eq_some_iff.1 e2).1
  have hother : ∀ q, q ≠ n → ({ w with heap := w.heap.setIfInBounds n (.map es' (gset m.K xs key y).length) } : World).heap[q]? = w.heap[q]? := fun q hq => by
    show (w.heap.setIfInBounds n _)[q]? = w.heap[q]?
    rw [Array.getElem?_setIfInBounds]
    rw [if_neg (fun e => hq e.symm)]
  have hsetL : gset m.K xs key y = (gset m.K L key (u, y)).map (Option.map fun p => (p.1, p.2.2)) := by
    rw [e5]; exact gset_map (fun p : Value × d.Den => p.2) L key (u, y)
  have hpl : ∀ i u' x', ((gset m.K L key (u, y)).map (Option.map (·.2)))[i]? = some (some (u', x')) → (i = gpos m.K L key ∧ u' = u ∧ HEq x' y ∧ x' = y) ∨ (i ≠ gpos m.K L key ∧ (L.map (Option.map (·.2)))[i]? = some (some (u', x'))) := by
    intro i u' x' h
    by_cases hi : i = gpos m.K L key
    · subst hi
      obtain ⟨k', hk'⟩ := gset_self L key (u, y)
      rw [List.getElem?_map, hk'] at h
      obtain ⟨q1, q2⟩ := Prod.mk.inj (Option.some.inj (Option.some.inj h))
      exact .inl ⟨rfl, q1.symm, heq_of_eq q2.symm, q2.symm⟩
    · rw [List.getElem?_map, gset_other L key _ i hi, ← List.getElem?_map] at h
      exact .inr ⟨hi, h⟩
  have hTg : ∀ g, hbV u = some g → σ g = τ r := fun g hg => (hT.blk hg).1
  have hgn : ∀ g, hbV u = some g → g ≠ n := fun g hg e => by
    have := hTg g hg
    rw [e, e3] at this
    exact hne this.symm
  refine ⟨_, updT τ b (τ b), (hev1.mono (fun s h hk => hKr (h ▸ hk))).trans (hev2.mono (fun s h hk => hKb (h ▸ hk))), ?_⟩
  have h3 := conc_back (z0 := .gone) (b := b) (t := τ b) (v := v) (x := .mapD m d (gset m.K xs key y) none) h2 (by simp [hlt]) hv ?_ hKb (fun i z hz hl' => (hlive i z hz hl').2)
  · rw [List.set_set] at h3
    exact h3
  · refine ⟨n, es', gset m.K L key (u, y), e1, ?_, hn1, he, hsetL, (fun i b h => nomatch h), fun i u' x' hP _ => ?_, fun i u' x' hP h => absurd h nolent, fun i j u1 x1 u2 x2 g q1 q2 _ _ g1 g2 => ?_⟩
    · show (w.heap.setIfInBounds n _)[n]? = _
      rw [Array.getElem?_setIfInBounds]
      simp [hnlt]
    · rcases hpl i u' x' hP with ⟨rfl, rfl, _, rfl⟩ | ⟨hi, hP'⟩
      · refine ⟨Thg.keep hev2 hpb (fun g hg => hother g (hgn g hg)) (hT.turn (fun q hq h0 => (if_neg (by omega)).trans h0) (fun g hg => if_pos (hTg g hg))), fun g hg e => hgn g hg (Option.some.inj e).symm⟩
      · obtain ⟨q1, q2⟩ := Th.own i u' x' hP' (fun h => hi (hl i h))
        refine ⟨Thg.keep hev2 hpb (fun g hg => hother g (fun e => q2 g hg (by rw [e]))) (q1.turn (fun q hq h0 => (if_neg (by omega)).trans h0) (fun g hg => ?_)), q2⟩
        · rw [if_neg (by rw [(q1.blk hg).1]; exact fun e => hne e.symm)]
          exact (q1.blk hg).1
    · rcases hpl i u1 x1 q1 with ⟨rfl, rfl, _, rfl⟩ | ⟨hi, hP1⟩
      · rcases hpl j u2 x2 q2 with ⟨rfl, rfl, _, rfl⟩ | ⟨hj, hP2⟩
        · rfl
        · obtain ⟨k1, _⟩ := Th.own j u2 x2 hP2 (fun h => hj (hl j h))
          exact absurd ((hTg g g1).symm.trans (k1.blk g2).1) hne
      · rcases hpl j u2 x2 q2 with ⟨rfl, rfl, _, rfl⟩ | ⟨hj, hP2⟩
        · obtain ⟨k1, _⟩ := Th.own i u1 x1 hP1 (fun h => hi (hl i h))
          exact absurd ((hTg g g2).symm.trans (k1.blk g1).1) hne
        · exact Th.inj i j u1 x1 u2 x2 g hP1 hP2 (fun h => hi (hl i h)) (fun h => hj (hl j h)) g1 g2
theorem updXD_sound {t : TypeId} {x k v : Operand} {H' : List AB} (hC : Conc E σ τ β ⟨tm, H⟩ a w) (ho : o.op = .mapUpdate t x k v) (h : updXD P H t (aeval tm x) (aeval tm k) (aeval tm v) = some (true, H')) : OpOut P E σ β tm a w o H' .unk := by
  have hx := aeval_rel hC x
  have hk := aeval_rel hC k
  have hv := aeval_rel hC v
  unfold updXD at h
  split at h
  case h_2 => cases h
  rename_i b r hab hav
  rw [hab] at hx
  rw [hav] at hv
  split at h
  case h_2 => cases h
  rename_i m T e xs l T' e' ys hm hr
  obtain ⟨g1, g2, g3⟩ := mapXD_some hm
  simp only at g1 g2 g3
  split at h
  case h_2 => cases h
  rename_i hT pe key _ _ hkey
  obtain ⟨hE⟩ := pe
  subst hT hE
  have hd : (∀ i, lnO l i → i = gpos m.K xs key) ∧ H' = (H.set r .gone).set b (.mapD m (.row T' e') (gset m.K xs key ys) none) := by
    split at h
    · simp only [Option.some.injEq, Prod.mk.injEq, true_and] at h
      exact ⟨fun i hl => absurd hl nolent, h.symm⟩
    · simp only [Option.some.injEq, Prod.mk.injEq] at h
      refine ⟨?_, h.2.symm⟩
      rintro i ⟨b', hb'⟩
      obtain ⟨rfl, _⟩ := Prod.mk.inj (Option.some.inj hb')
      exact (Nat.eq_of_beq_eq_true h.1).symm
  obtain ⟨hl, rfl⟩ := hd
  clear h
  obtain ⟨hfk, hkv⟩ := decF_rel hkey hk
  simp only [Rel] at hx hv
  obtain ⟨n, es, L, e1, e2, e3, e4, e5, e6, Th⟩ := hC.heap b _ _ g1 hx.1
  have hpos' : gpos m.K xs key = gpos m.K L key := by rw [e5]; exact gpos_map (fun p : Value × (ED.row T' e').Den => p.2) L key
  have hTr : Thg σ w (τ r) (a.eval v) (.row T' e') ys := hC.heap r _ _ hr hv.1
  have hbr : b ≠ r := fun e => by rw [e, hr] at g1; cases g1
  have hfind := gfind_run (P := P) (w := w) (enc := fun p : Value × (ED.row T' e').Den => p.1) g3 key L 0
  rw [← e4] at hfind
  have hxl : xs.length = L.length := by rw [e5]; simp
  have hgl : (gset m.K xs key ys).length = (gset m.K L key (a.eval v, ys)).length := by
    have : gset m.K xs key ys = (gset m.K L key (a.eval v, ys)).map (Option.map fun p => (p.1, p.2.2)) := by
      rw [e5]; exact gset_map (fun p : Value × (ED.row T' e').Den => p.2) L key (a.eval v, ys)
    rw [this]; simp
  cases hf : gfind m.K L key 0 with
  | none =>
    obtain ⟨h1, h2⟩ := gents_new (ka := m.ka) (enc := fun p : Value × (ED.row T' e').Den => p.1) (j := 0) (a.eval v, ys) hf
    obtain ⟨σ', τ', hev, hC'⟩ := conc_give (es' := es.push ⟨valF m.ka m.K key, a.eval v, L.length⟩) hC g1 hx.1 hr rfl hbr e1 e2 e3 e5 Th hTr (fun i h => (hl i h).trans hpos') (by rw [Array.toList_push, e4, h1]; simp)
    refine OpGives.unit σ' (w' := { w with heap := w.heap.setIfInBounds n (.map (es.push ⟨valF m.ka m.K key, a.eval v, L.length⟩) (gset m.K xs key ys).length) }) ?_ ⟨τ', β, ⟨[], by simp⟩, hev, hC', by simp [Rel]⟩
    rw [hf] at hfind
    have : (Instr.mapUpdate t (a.eval x) (a.eval k) (a.eval v)).run P w = .ok () { w with heap := w.heap.setIfInBounds n (.map (es.push ⟨valF m.ka m.K key, a.eval v, L.length⟩) (gset m.K xs key ys).length) } := by
      unfold Instr.mapUpdate
      rw [e1, hkv]
      simp only [Sem.run_bind, run_underlying g2, MapKept.run_getObj_map e2, keyB_check (w := w) g3, hfind, Result.andThen_ok, Option.map_none, run_setMap _ e2, hgl, h2, hxl]
    simp only [execOp, ho, Sem.run_bind, Sem.run_map, this]
    rfl
  | some q =>
    obtain ⟨i, v0⟩ := q
    have hf' : gfind m.K L key 0 = some (0 + i, v0) := by rw [Nat.zero_add]; exact hf
    obtain ⟨h1, h2, h3⟩ := gents_hit (ka := m.ka) (enc := fun p : Value × (ED.row T' e').Den => p.1) (j := 0) (a.eval v, ys) hfk hf'
    have ei : es[i]? = (gents m.ka m.K (fun p : Value × (ED.row T' e').Den => p.1) 0 L)[i]? := by rw [← e4, Array.getElem?_toList]
    have h0 : (((es[i]?).map (·.key)).getD (valF m.ka m.K key) = valF m.ka m.K key) := by rw [ei, h3]; rfl
    obtain ⟨σ', τ', hev, hC'⟩ := conc_give (es' := es.modify i fun e => { e with key := valF m.ka m.K key, val := a.eval v }) hC g1 hx.1 hr rfl hbr e1 e2 e3 e5 Th hTr (fun i h => (hl i h).trans hpos') (by rw [Array.toList_modify, e4, h1])
    refine OpGives.unit σ' (w' := { w with heap := w.heap.setIfInBounds n (.map (es.modify i fun e => { e with key := valF m.ka m.K key, val := a.eval v }) (gset m.K xs key ys).length) }) ?_ ⟨τ', β, ⟨[], by simp⟩, hev, hC', by simp [Rel]⟩
    rw [hf] at hfind
    have : (Instr.mapUpdate t (a.eval x) (a.eval k) (a.eval v)).run P w = .ok () { w with heap := w.heap.setIfInBounds n (.map (es.modify i fun e => { e with key := valF m.ka m.K key, val := a.eval v }) (gset m.K xs key ys).length) } := by
      unfold Instr.mapUpdate
      rw [e1, hkv]
      simp only [Sem.run_bind, run_underlying g2, MapKept.run_getObj_map e2, keyB_check (w := w) g3, hfind, Result.andThen_ok, Option.map_some, h0, keyB_stays (w := w) g3, run_setMap _ e2, hgl, h2, hxl]
    simp only [execOp, ho, Sem.run_bind, Sem.run_map, this]
    rfl
theorem mlenXD_sound {t : TypeId} {x : Operand} {y : AV} (hC : Conc E σ τ β ⟨tm, H⟩ a w) (ho : o.op = .call { callee := .builtin .len, args := #[x], argTypes := #[t] }) (h : mlenXD P H t (aeval tm x) = some y) : OpOut P E σ β tm a w o H y := by
  have hx := aeval_rel hC x
  unfold mlenXD at h
  split at h
  case h_2 => cases h
  rename_i b hab
  rw [hab] at hx
  split at h
  case h_2 => cases h
  rename_i m d xs l hm
  obtain ⟨g1, g2, g3⟩ := mapXD_some hm
  simp only at g1 g2 g3
  obtain rfl := Option.some.inj h
  simp only [Rel] at hx
  obtain ⟨n, es, L, e1, e2, e3, e4, e5, e6, Th⟩ := hC.look g1 hx.1
  have hl : es.size = glen m.K xs := by
    rw [← Array.length_toList, e4, glen_ents, e5]
    exact (glen_map (fun p : Value × d.Den => p.2) L).symm
  refine OpOut.same hC (v := .int .i64 (glen m.K xs)) ?_ (by simp [Rel])
  simp [execOp, ho, resolve, invoke, builtin, e1, Builtin.len_, run_underlying g2, goInt, MapKept.run_getObj_map e2, hl]
theorem makeXD_sound {t : TypeId} {m : MTy} {d : ED} (hC : Conc E σ τ β ⟨tm, H⟩ a w) (ho : o.op = .makeMap t none) : OpOut P E σ β tm a w o (H ++ [.mapD m d [] none]) (.map H.length) := by
  have hsz := hC.size
  simp only at hsz
  obtain ⟨t', hP, ht⟩ := conc_fresh hC
  have hev : EvT (fun _ => False) σ w (upd σ w.heap.size t') { w with heap := w.heap.push (.map #[] 0) } := by
    refine ⟨rfl, rfl, rfl, fun _ => Nat.le_refl _, by simp, fun b hb _ => ⟨?_, ?_⟩⟩
    · simp [upd, Nat.ne_of_lt hb]
    · show (w.heap.push _)[b]? = w.heap[b]?
      rw [Array.getElem?_push]
      rw [if_neg (Nat.ne_of_lt hb)]
  have hpre : ∃ s, β ++ [Value.map (some w.heap.size)] = β ++ s := ⟨_, rfl⟩
  refine OpGives.val (upd σ w.heap.size t') (v := .map (some w.heap.size)) (w' := { w with heap := w.heap.push (.map #[] 0) }) ?_ ⟨_, β ++ [.map (some w.heap.size)], hpre, hev.mono (fun _ h => h.elim), conc_new hC (hev.mono (fun _ h => h.elim)) hP ht ?_, ?_⟩
  · simp [execOp, ho, Instr.makeMap, newObj, Sem.run]
  · refine ⟨w.heap.size, #[], [], rfl, by simp, by simp [upd], rfl, rfl, (fun i b h => nomatch h), fun i u x h => ?_, fun i u x h => ?_, fun i j u x u' x' g h => ?_⟩ <;> simp at h
  · simp only [Rel]
    exact ⟨by rw [← hsz]; simp, rfl⟩
omit [Dr] in
theorem lookXD_pres {t : TypeId} {x k : AV} {ok : Bool} {H' : List AB} {y : AV} (h : lookXD P H t x k ok = some (H', y)) : HPres H H' := by
  unfold lookXD at h
  split at h
  case h_2 => cases h
  split at h
  case h_2 => cases h
  rename_i m T e xs hm
  obtain ⟨g1, _, _⟩ := mapXD_some hm
  split at h
  case h_2 => cases h
  simp only [Option.some.injEq, Prod.mk.injEq] at h
  obtain ⟨rfl, _⟩ := h
  exact (HPres.set g1 (fun _ => by simp)).trans (.app _ _)
omit [Dr] in
theorem updXD_pres {t : TypeId} {x k v : AV} {H' : List AB} {c : Bool} (h : updXD P H t x k v = some (c, H')) : HPres H H' := by
  unfold updXD at h
  split at h
  case h_2 => cases h
  rename_i b r
  split at h
  case h_2 => cases h
  rename_i m T e xs l T' e' ys hm hr
  obtain ⟨g1, _, _⟩ := mapXD_some hm
  simp only at g1
  have hbr : r ≠ b := fun e => by rw [e] at hr; rw [hr] at g1; cases g1
  split at h
  case h_2 => cases h
  have : ∀ z, HPres H ((H.set r .gone).set b z) := fun z => (HPres.set hr (fun _ => by simp)).trans (HPres.set (x := .mapD m (.row T e) xs l) (by rw [List.getElem?_set, if_neg hbr]; exact g1) (fun _ => by simp))
  split at h
  · simp only [Option.some.injEq, Prod.mk.injEq] at h
    obtain ⟨_, rfl⟩ := h
    exact this _
  · simp only [Option.some.injEq, Prod.mk.injEq] at h
    obtain ⟨_, rfl⟩ := h
    exact this _
omit [Dr] in
/-- What a lookup that lends leaves as it was. -/
theorem lookXD_same {t : TypeId} {b : Nat} {k : AV} {ok : Bool} {H' : List AB} {y : AV} (h : lookXD P H t (.map b) k ok = some (H', y)) : ∀ j, j ≠ b → j < H.length → H'[j]? = H[j]? := by
  unfold lookXD at h
  simp only at h
  split at h
  case h_2 => cases h
  split at h
  case h_2 => cases h
  simp only [Option.some.injEq, Prod.mk.injEq] at h
  obtain ⟨rfl, _⟩ := h
  intro j hj hl
  rw [List.getElem?_append_left (by simpa using hl), List.getElem?_set, if_neg (fun e => hj e.symm)]
/-- A map of rows whose rows stay for good from now on. -/
theorem conc_frzD {b : Nat} {m : MTy} {T : Ty} {e : TypeId} {xs : Gp m.K (List T.Den)} (hC : Conc E σ τ β ⟨tm, H⟩ a w) (hb : H[b]? = some (.mapD m (.row T e) xs none)) (hv : b < β.length) :
    ∃ σ', EvT (Rng E) σ w σ' w ∧ Conc E σ' τ β ⟨tm, H.set b (.mapZ { m with va := false, V := .slice T } xs)⟩ a w := by
  obtain ⟨v, hv⟩ : ∃ v, β[b]? = some v := ⟨_, List.getElem?_eq_getElem hv⟩
  obtain ⟨n, es, L, e1, e2, e3, e4, e5, e6, Th⟩ := hC.heap b _ _ hb hv
  have hKb := hC.apart b _ hb rfl
  have hev : EvT (fun s => s = τ b) σ w (fun q => if σ q = τ b ∧ q ≠ n then 0 else σ q) w := ⟨rfl, rfl, rfl, fun _ => Nat.le_refl _, Nat.le_refl _, fun q hq hn => ⟨if_neg (fun h => hn h.1), rfl⟩⟩
  refine ⟨_, hev.mono (fun s h hk => hKb (h ▸ hk)), Conc.put hC hb rfl hv hev ?_⟩
  refine ⟨n, es, L, e1, e2, by simp only [ne_eq, not_true_eq_false, and_false, if_false]; exact e3, e4, e5, fun i k u x hx => ?_⟩
  obtain ⟨q1, q2⟩ := Th.own i u x (by rw [List.getElem?_map, hx]; rfl) nolent
  have h1 : Thg (fun q => if σ q = τ b ∧ q ≠ n then 0 else σ q) w 0 u (.row T e) x := q1.turn (fun q hq h0 => by split <;> first | rfl | exact h0) (fun g hg => if_pos ⟨(q1.blk hg).1, fun e => q2 g hg (by rw [e])⟩)
  obtain ⟨A, c, rfl, h2, h3, h4⟩ := Own.rd h1
  exact ⟨[.slice A x.length c], ⟨A, c, rfl, h2, h4⟩, rfl⟩
/-- A known map, to be gone through. -/
def frzM (b : Nat) (H : List AB) : Option (List AB) :=
  match H[b]? with
  | some (.mapD m (.row T e) xs none) => some (H.set b (.mapZ { m with va := false, V := .slice T } xs))
  | _ => none
theorem frzM_sound {b : Nat} {H' : List AB} (hC : Conc E σ τ β ⟨tm, H⟩ a w) (h : frzM b H = some H') : HPres H H' ∧ ∃ σ', EvT (Rng E) σ w σ' w ∧ Conc E σ' τ β ⟨tm, H'⟩ a w := by
  unfold frzM at h
  split at h
  · rename_i m T e xs hb
    obtain rfl := Option.some.inj h
    exact ⟨.set hb (fun _ => by simp), conc_frzD hC hb (by rw [hC.size]; exact (List.getElem?_eq_some_iff.1 hb).1)⟩
  · cases h
end
end Go.Am

/- The abstract machine, part 34: slices that are written out, of whatever cells. No statement of its own. -/
namespace Go.Am
open Go.Vk Go.RowKit
set_option linter.unusedVariables false
set_option linter.unusedSimpArgs false
variable [Dr]
section
variable {P : Program} {E : Env} {σ σ1 : Gh} {τ : Nat → Nat} {w w1 : World} {β : List Value} {tm : List AV} {H : List AB} {a : Act} {o : Oper}
/-- A slice that is written out, its cells as they are. -/
def litX (P : Program) (tm : List AV) (H : List AB) (t : TypeId) (n : Nat) (parts : List (Nat × Operand)) : Option (List AB × AV) :=
  match P.underlying t with
  | some (.slice e) => match P.info? e with
    | some ie => match ie.zero, Nat.ble (n * ie.size) 65536, Nat.beq (n * ie.size) 0, Nat.ble n 65536 with
      | some z, true, false, true => match partsX tm parts with
        | some ps => match fillA (fun i => some (i * ie.size, ie.size)) (((Array.range (n * ie.size)).map (z.cells[· % z.cells.size]!)).toList.map .val) ps with
          | some cs => some (H ++ [.cells e cs], .lit H.length n ie.size)
          | none => none
        | none => none
      | _, _, _, _ => none
    | none => none
  | _ => none
theorem lit_sound {t : TypeId} {n : Nat} {parts : Array (Nat × Operand)} {H' : List AB} {y : AV} (hC : Conc E σ τ β ⟨tm, H⟩ a w) (ho : o.op = .buildSlice t n parts) (h : litX P tm H t n parts.toList = some (H', y)) : OpOut P E σ β tm a w o H' y := by
  unfold litX at h
  split at h
  case h_2 => cases h
  rename_i e hu
  split at h
  case h_2 => cases h
  rename_i ie hie
  split at h
  case h_2 => cases h
  rename_i z hz hle hne hn
  split at h
  case h_2 => cases h
  rename_i ps hps
  split at h
  case h_2 => cases h
  rename_i cs hf
  simp only [Option.some.injEq, Prod.mk.injEq] at h
  obtain ⟨rfl, rfl⟩ := h
  have hle := Nat.le_of_ble_eq_true hle
  have hn := Nat.le_of_ble_eq_true hn
  have hne := Nat.ne_of_beq_eq_false hne
  obtain ⟨rs, e1, e2⟩ := fillA_rel (partsX_rel hC hps) (relL_vals (E := E) (σ := σ) (w := w) (β := β) ((Array.range (n * ie.size)).map (z.cells[· % z.cells.size]!)).toList) hf
  have hrun := run_buildSlice (P := P) w t e n (parts.map fun (i, x) => (i, a.eval x)) rs ie z hu hie hz (by omega) hne (by rw [Array.toList_map]; exact e1)
  obtain ⟨σ', τ', β', h1, h2, h3, h4⟩ := conc_alloc (T := e) (vs := rs) hC e2
  simp only [Rel] at h4
  obtain ⟨m, h5, h6⟩ := h4
  simp only [Value.pointer.injEq, Option.some.injEq, Addr.mk.injEq] at h6
  obtain ⟨rfl, _⟩ := h6
  refine OpGives.val σ' (v := .slice (some ⟨w.heap.size, 0, none⟩) n n) (w' := { w with heap := w.heap.push (.cells rs e) }) ?_ ⟨τ', β', h1, h2, h3, ?_⟩
  · simp only [execOp, ho, Sem.run_bind, hrun, Result.andThen_ok, World.alloc]
    rfl
  · simp only [Rel]
    exact ⟨_, h5, rfl⟩
/-- the address of an element of it -/
def indexL (P : Program) (t : TypeId) (x i : AV) : Option (Bool × AV) :=
  match P.underlying t, x, i with
  | some (.slice e), .lit b n sz, .val (.int _ j) => match (P.info? e).map (fun i => Nat.beq i.size sz) with
    | some true => some (decide (0 ≤ j) && decide (j < (n : Int)), .ptr b (j.toNat * sz))
    | _ => none
  | _, _, _ => none
theorem indexL_sound {t : TypeId} {x ix : Operand} {y : AV} (hC : Conc E σ τ β ⟨tm, H⟩ a w) (ho : o.op = .indexAddr t x ix) (h : indexL P t (aeval tm x) (aeval tm ix) = some (true, y)) : OpOut P E σ β tm a w o H y := by
  have hx := aeval_rel hC x
  have hi := aeval_rel hC ix
  unfold indexL at h
  split at h
  case h_2 => cases h
  rename_i e b n sz kk j hu hxv hiv
  rw [hxv] at hx
  rw [hiv] at hi
  split at h
  case h_2 => cases h
  rename_i hsz
  obtain ⟨ti, hti, hbeq⟩ := Option.map_eq_some_iff.1 hsz
  have hsz : (P.info? e).map (·.size) = some sz := by rw [hti]; simpa using Nat.eq_of_beq_eq_true hbeq
  simp only [Option.some.injEq, Prod.mk.injEq] at h
  obtain ⟨hc, rfl⟩ := h
  obtain ⟨h0, h1⟩ := idxS hc
  simp only [Rel] at hx hi
  obtain ⟨m, e1, e2⟩ := hx
  refine OpOut.same hC (ex_index ho hu hsz e2 hi h0 h1) ?_
  simp only [Rel]
  exact ⟨m, e1, by rw [add_mk]; simp⟩
def lenL (P : Program) (t : TypeId) (x : AV) : Option AV :=
  match P.underlying t, x with
  | some (.slice _), .lit _ n _ => some (.val (.int .i64 n))
  | _, _ => none
theorem lenL_sound {x : Operand} {t : TypeId} {y : AV} (hC : Conc E σ τ β ⟨tm, H⟩ a w) (ho : o.op = .call { callee := .builtin .len, args := #[x], argTypes := #[t] }) (h : lenL P t (aeval tm x) = some y) : OpOut P E σ β tm a w o H y := by
  have hx := aeval_rel hC x
  unfold lenL at h
  split at h
  case h_2 => cases h
  rename_i e b n sz hu hv
  rw [hv] at hx
  obtain rfl := Option.some.inj h
  simp only [Rel] at hx
  obtain ⟨m, e1, e2⟩ := hx
  refine OpOut.same hC (v := .int .i64 n) ?_ (by simp [Rel])
  simp [execOp, ho, resolve, invoke, builtin, e2, Builtin.len_, run_underlying hu, goInt]
omit [Dr] in
theorem litX_pres {t : TypeId} {n : Nat} {ps : List (Nat × Operand)} {H' : List AB} {y : AV} (h : litX P tm H t n ps = some (H', y)) : HPres H H' := by
  unfold litX at h
  repeat' (split at h)
  all_goals first | (cases h; done) | skip
  simp only [Option.some.injEq, Prod.mk.injEq] at h
  obtain ⟨rfl, _⟩ := h
  exact .app _ _
end
end Go.Am

/- The abstract machine, part 35: the end of a known row is cut and cleared. No statement of its own. -/
namespace Go.Am
open Go.Vk Go.RowKit
set_option linter.unusedVariables false
set_option linter.unusedSimpArgs false
variable [Dr]
omit [Dr] in
theorem addr_add (ad : Addr) (i j : Nat) : (ad.add i).add j = ad.add (i + j) := by
  unfold Addr.add
  split
  · rename_i h; subst h; simp
  · split
    · rename_i h; subst h; simp_all
    · rename_i h1 h2
      have : ¬ i + j = 0 := by omega
      simp_all
      try omega
omit [Dr] in
theorem storeCells_shift {P : Program} (ad : Addr) (k : Nat) : ∀ (us : List Value) (j : Nat) (w : World), (storeCells (ad.add k) us j).run P w = (storeCells ad us (k + j)).run P w
  | [], j, w => rfl
  | u :: us, j, w => by
    simp only [storeCells, addr_add, Sem.run_bind]
    cases (store (ad.add (k + j)) u).run P w with
    | ok x w' => simp only [Result.andThen]; exact storeCells_shift ad k us (j + 1) w'
    | _ => rfl
omit [Dr] in
theorem storeCells_app {P : Program} (ad : Addr) : ∀ (us vs : List Value) (j : Nat) (w w1 : World), (storeCells ad us j).run P w = .ok () w1 → (storeCells ad (us ++ vs) j).run P w = (storeCells ad vs (j + us.length)).run P w1
  | [], vs, j, w, w1, h => by
    simp only [storeCells, Sem.run_pure, Result.ok.injEq, true_and] at h
    subst h; rfl
  | u :: us, vs, j, w, w1, h => by
    simp only [List.cons_append, storeCells, Sem.run_bind] at h ⊢
    cases hs : (store (ad.add j) u).run P w with
    | ok x w' =>
      rw [hs] at h
      simp only [Result.andThen] at h ⊢
      rw [storeCells_app ad us vs (j + 1) w' w1 h]
      congr 2
      simp only [List.length_cons]; omega
    | _ => rw [hs] at h; simp [Result.andThen] at h
theorem own_clear {α : Type} {P : Program} {K : Kd α} {e : TypeId} {σ : Gh} {t : Nat} {ad : Addr} {n c0 : Nat} {z : α} {us : List Value} (hu : us.length = K.sz) (h1 : ∀ v ∈ us, v.oneCell' = true) (hz : ∀ w, K.rep σ w z us) (ht : 1 ≤ t) :
    ∀ (m l : Nat) (w : World) (xs : List α), Own K e σ t w (.slice (some ad) n c0) xs → l + m = xs.length →
    ∃ w', (storeCells (ad.add (l * K.sz)) (List.replicate m us).flatten 0).run P w = .ok () w' ∧ Ev t (t + 1) σ w σ w' ∧ Own K e σ t w' (.slice (some ad) n c0) (xs.take l ++ List.replicate m z)
  | 0, l, w, xs, h, hl => ⟨w, rfl, Ev.refl .., by rw [List.replicate_zero, List.append_nil, List.take_of_length_le (by omega)]; exact h⟩
  | m + 1, l, w, xs, h, hl => by
    have hput : ∀ cs : List Value, cs.length = us.length → (putCells cs.toArray 0 us).toList = us := fun cs hc => by
      rw [putCells_toList]
      have : ∀ (us p c : List Value), c.length = us.length → (us.foldl (fun (q : List Value × Nat) u => (q.1.set q.2 u, q.2 + 1)) (p ++ c, p.length)).1 = p ++ us := by
        intro us
        induction us with
        | nil => intro p c hc; simp at hc; subst hc; rfl
        | cons u us ih =>
          intro p c hc
          cases c with
          | nil => simp at hc
          | cons c0 c =>
            simp only [List.foldl_cons]
            have := ih (p ++ [u]) c (by simpa using hc)
            simp only [List.length_append, List.length_cons, List.length_nil, List.append_assoc, List.cons_append, List.nil_append] at this
            rw [show (p ++ c0 :: c).set p.length u = p ++ u :: c by rw [List.set_append_right _ _ (Nat.le_refl _)]; simp]
            exact this
      have := this us [] cs hc
      simpa using this
    obtain ⟨w1, r1, r2, r3⟩ := own_store (P := P) (y := z) (us := us) (off := 0) h (i := l) (by omega) (by omega) h1 (fun c hc => by rw [hput c (by rw [K.len hc, hu])]; exact hz w) ht
    obtain ⟨w2, s1, s2, s3⟩ := own_clear hu h1 hz ht m (l + 1) w1 (xs.set l z) r3 (by rw [List.length_set]; omega)
    refine ⟨w2, ?_, r2.trans s2, ?_⟩
    · rw [List.replicate_succ, List.flatten_cons]
      have r1 : (storeCells (ad.add (l * K.sz)) us 0).run P w = .ok () w1 := r1
      rw [storeCells_app _ _ _ _ _ _ r1, hu, storeCells_shift]
      rw [storeCells_shift] at s1
      rw [← s1]
      congr 2
      rw [Nat.succ_mul]; omega
    · have : (xs.set l z).take (l + 1) ++ List.replicate m z = xs.take l ++ List.replicate (m + 1) z := by
        rw [List.replicate_succ, List.take_add_one]
        rw [List.take_set_of_le (Nat.le_refl _)]
        rw [List.getElem?_set, if_pos rfl, if_pos (by omega)]
        simp
      rw [← this]; exact s3
omit [Dr] in
theorem zeros_flat (c : Array Value) (n : Nat) (hc : 0 < c.size) : (Builtin.zeroCells c n).toList = (List.replicate n c.toList).flatten := by
  induction n with
  | zero => simp [Builtin.zeroCells]
  | succ n ih =>
    rw [List.replicate_succ', List.flatten_append, ← ih]
    apply List.ext_getElem
    · simp [Builtin.zeroCells, Nat.succ_mul]
    · intro i h1 h2
      simp only [Builtin.zeroCells, Array.toList_map, Array.toList_range, List.getElem_map, List.getElem_range, List.flatten_cons, List.flatten_nil, List.append_nil]
      rw [List.getElem_append]
      split
      · simp
      · rename_i h
        simp only [List.length_map, List.length_range, Nat.not_lt] at h
        have h1 : i < (n + 1) * c.size := by simpa [Builtin.zeroCells] using h1
        have hlt : i - n * c.size < c.size := by rw [Nat.succ_mul] at h1; omega
        have hm : i % c.size = i - n * c.size := by
          have : i = (i - n * c.size) + c.size * n := by rw [Nat.mul_comm c.size n]; omega
          rw [this, Nat.add_mul_mod_self_left, Nat.mod_eq_of_lt hlt]
          rw [Nat.mul_comm c.size n]; omega
        simp only [List.length_map, List.length_range, hm]
        rw [getElem!_pos c _ hlt]
        simp
end Go.Am
