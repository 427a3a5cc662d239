/- The abstract machine, part 22: maps. No statement of its own. -/
import Derived.Test.YtfhcockdlfidmaaAm6
namespace Go.Am
open Go.Vk Go.RowKit
set_option linter.unusedVariables false
set_option linter.unusedSimpArgs false
variable [Dr]

def encA (ag : Bool) (T : Ty) (x : T.Den) : AV :=
  match ag with
  | true => .agg ((encF T x).map .val)
  | false => ((encF T x).map .val).headD .unk
def wholeD {α : Type} (o : Option (α × List AV)) : Option α :=
  match o with
  | some (x, []) => some x
  | _ => none
def resA (ok : Bool) (x : AV) (h : Bool) : AV :=
  match ok with
  | false => x
  | true => .tup [x, .val (.bool h)]
def resV (ok : Bool) (x : Value) (h : Bool) : Value :=
  match ok with
  | false => x
  | true => .tuple #[x, .bool h]
/-- A value of a flat type. -/
def decF (ag : Bool) (T : Ty) (x : AV) : Option T.Den :=
  match flatT T with
  | true => match ag with
    | true => match x with
      | .agg cs => wholeD (dec T cs)
      | .val (.agg vs) => wholeD (dec T (vs.toList.map .val))
      | _ => none
    | false => wholeD (dec T [x])
  | false => none
def zeroM (P : Program) (m : MTy) : Option m.V.Den :=
  match (P.info? m.vt).bind (·.zero) with
  | some (.agg cs) => match m.va with
    | true => decF true m.V (.val (.agg cs))
    | false => none
  | some z => match m.va with
    | true => none
    | false => decF false m.V (.val z)
  | none => none
/-- A known map, of the type that an operation names. -/
def mapX (P : Program) (t : TypeId) : Option AB → Option ((m : MTy) × Mp m.K m.V)
  | some (.map m xs) => match P.underlying t with
    | some (.map kt vt) => match Nat.beq kt m.kt && (Nat.beq vt m.vt && (keyB P m.ka m.kt m.K && flatT m.V)) with
      | true => some ⟨m, xs⟩
      | false => none
    | _ => none
  | _ => none
def lookupX (P : Program) (H : List AB) (t : TypeId) (x k : AV) (ok : Bool) : Option AV :=
  match x with
  | .map b => match mapX P t (look H b) with
    | some ⟨m, xs⟩ => match decF m.ka m.K k, zeroM P m with
      | some key, some z => some (resA ok (encA m.va m.V ((mget m.K m.V xs key).getD z)) (mget m.K m.V xs key).isSome)
      | _, _ => none
    | none => none
  | _ => none
def updX (P : Program) (H : List AB) (t : TypeId) (x k v : AV) : Option (List AB) :=
  match x with
  | .map b => match mapX P t H[b]? with
    | some ⟨m, xs⟩ => match decF m.ka m.K k, decF m.va m.V v with
      | some key, some y => some (H.set b (.map m (mset m.K m.V xs key y)))
      | _, _ => none
    | none => none
  | _ => none
def entryX (P : Program) (H : List AB) (t : TypeId) (x k : AV) : Option (List AB × AV) :=
  match x with
  | .map b => match mapX P t H[b]? with
    | some ⟨m, xs⟩ => match decF m.ka m.K k, zeroM P m with
      | some key, some z => some (H.set b (.map m (mset m.K m.V xs key ((mget m.K m.V xs key).getD z))), .tup [encA m.va m.V ((mget m.K m.V xs key).getD z), .val (.int .i64 (mpos m.K m.V xs key))])
      | _, _ => none
    | none => none
  | _ => none
/-- (what must hold, what is there then) -/
def estoreX (P : Program) (H : List AB) (t : TypeId) (x s v : AV) : Option (Bool × List AB) :=
  match x, s with
  | .map b, .val (.int .i64 n) => match mapX P t H[b]? with
    | some ⟨m, xs⟩ => match decF m.va m.V v with
      | some y => some (decide (0 ≤ n) && mhas m.K m.V xs n.toNat, H.set b (.map m (mput m.K m.V xs n.toNat y)))
      | none => none
    | none => none
  | _, _ => none
def delX (P : Program) (H : List AB) (t : TypeId) (x k : AV) : Option (List AB) :=
  match x with
  | .map b => match mapX P t H[b]? with
    | some ⟨m, xs⟩ => match decF m.ka m.K k with
      | some key => some (H.set b (.map m (mdel m.K m.V xs key)))
      | none => none
    | none => none
  | _ => none
def mlenX (P : Program) (H : List AB) (t : TypeId) (x : AV) : Option AV :=
  match x with
  | .map b => match mapX P t (look H b) with
    | some ⟨m, xs⟩ => some (.val (.int .i64 (mlen m.K m.V xs)))
    | none => none
  | _ => none
def makeX (P : Program) (t : TypeId) : Option MTy :=
  match P.underlying t with
  | some (.map kt vt) => match tyOf P 30 kt, tyOf P 30 vt with
    | some K, some V => some ⟨kt, vt, aggB P kt, K, aggB P vt, V⟩
    | _, _ => none
  | _ => none

section
variable {P : Program} {E : Env} {σ σ1 : Gh} {τ : Nat → Nat} {w w1 : World} {β : List Value} {tm : List AV} {H : List AB} {a : Act} {o : Oper}
theorem encA_rel {ag : Bool} {T : Ty} {x : T.Den} : Rel E σ w β (encA ag T x) (valF ag T x) := by
  unfold encA valF
  cases ag with
  | true => simp only [Rel]; exact ⟨encF T x, rfl, relL_vals _⟩
  | false =>
    cases h : encF T x with
    | nil => simp [Rel]
    | cons v l => simp [Rel]
omit [Dr] in
theorem wholeD_some {T : Ty} {l : List AV} {x : T.Den} (h : wholeD (dec T l) = some x) : dec T l = some (x, []) := by
  unfold wholeD at h
  split at h
  · rename_i y hy; obtain rfl := Option.some.inj h; exact hy
  · cases h
theorem decF_rel {ag : Bool} {T : Ty} {av : AV} {x : T.Den} {u : Value} (h : decF ag T av = some x) (hr : Rel E σ w β av u) : flatT T = true ∧ u = valF ag T x := by
  unfold decF at h
  split at h
  case h_2 => cases h
  rename_i hf
  refine ⟨hf, ?_⟩
  have key : ∀ {l : List AV} {us : List Value}, wholeD (dec T l) = some x → RelL E σ w β l us → us = encF T x := by
    intro l us h1 h2
    obtain ⟨c, d, rfl, h3, h4⟩ := dec_rel T (wholeD_some h1) h2
    simp only [RelL] at h4
    subst h4
    rw [List.append_nil]
    exact (rep_flat T x c hf).1 h3
  cases ag with
  | true =>
    simp only at h
    split at h
    · rename_i cs
      simp only [Rel] at hr
      obtain ⟨vs, rfl, h2⟩ := hr
      simp only [valF]
      rw [key h h2]
    · rename_i vs
      simp only [Rel] at hr
      subst hr
      have := key h (relL_vals (E := E) (σ := σ) (w := w) (β := β) vs.toList)
      simp only [valF]
      rw [← this]
    · cases h
  | false =>
    simp only at h
    have := key h (us := [u]) (by simp only [RelL]; exact ⟨u, [], rfl, hr, rfl⟩)
    simp only [valF]
    rw [← this]
    rfl
omit [Dr] in
theorem zeroM_run [Dr] {m : MTy} {d : m.V.Den} (h : zeroM P m = some d) : (zeroValue m.vt).run P w = .ok (valF m.va m.V d) w := by
  unfold zeroM at h
  have fin : ∀ {z : Value}, (P.info? m.vt).bind (·.zero) = some z → decF m.va m.V (.val z) = some d → (zeroValue m.vt).run P w = .ok (valF m.va m.V d) w := by
    intro z hz hd
    obtain ⟨_, rfl⟩ := decF_rel (E := ⟨fun t => t = 0, fun t => t < 2, 2, rfl, fun t h => by subst h; omega, fun t h => h⟩) (σ := fun _ => 0) (w := w) (β := []) (u := z) hd (by simp [Rel])
    obtain ⟨i, hi, hzz⟩ := Option.bind_eq_some_iff.1 hz
    simp [zeroValue, typeInfo, hi, hzz]
  split at h
  · rename_i cs hz
    split at h
    · rename_i hva; exact fin hz (by rw [hva]; exact h)
    · cases h
  · rename_i z hne hz
    split at h
    · cases h
    · rename_i hva; exact fin hz (by rw [hva]; exact h)
  · cases h
omit [Dr] in
theorem mapX_some {t : TypeId} {ob : Option AB} {m : MTy} {xs : Mp m.K m.V} (h : mapX P t ob = some ⟨m, xs⟩) : ob = some (.map m xs) ∧ P.underlying t = some (.map m.kt m.vt) ∧ keyB P m.ka m.kt m.K = true ∧ flatT m.V = true := by
  unfold mapX at h
  split at h
  · rename_i m' xs'
    split at h
    · rename_i kt vt hu
      split at h
      · rename_i hb
        simp only [Option.some.injEq, Sigma.mk.injEq] at h
        obtain ⟨rfl, h⟩ := h
        obtain rfl := eq_of_heq h
        simp only [Bool.and_eq_true] at hb
        obtain rfl := Nat.eq_of_beq_eq_true hb.1
        obtain rfl := Nat.eq_of_beq_eq_true hb.2.1
        exact ⟨rfl, hu, hb.2.2.1, hb.2.2.2⟩
      · cases h
    · cases h
  · cases h
omit [Dr] in
theorem run_setMap {r : Nat} {es : Array MapEntry} {clock : Nat} (ob : Obj) (hb : w.heap[r]? = some (.map es clock)) : (setObj r ob).run P w = .ok () { w with heap := w.heap.setIfInBounds r ob } := MapKept.run_setObj_map ob hb
/-- the world behind a turn of one map -/
theorem ev_map {n : Nat} {es es' : Array MapEntry} {c c' : Nat} (hb : w.heap[n]? = some (.map es c)) : EvT (fun t => t = σ n) σ w σ { w with heap := w.heap.setIfInBounds n (.map es' c') } :=
  ⟨rfl, rfl, rfl, fun _ => Nat.le_refl _, by simp, fun b hb' hn => ⟨rfl, by
    show (w.heap.setIfInBounds n _)[b]? = w.heap[b]?
    rw [Array.getElem?_setIfInBounds]
    rw [if_neg (fun e => hn (by rw [e]))]⟩⟩
theorem put_map {b n : Nat} {m : MTy} {xs xs' : Mp m.K m.V} {es es' : Array MapEntry} {v : Value} (hC : Conc E σ τ β ⟨tm, H⟩ a w) (hx : H[b]? = some (.map m xs)) (hv : β[b]? = some v) (e1 : v = .map (some n)) (hb : w.heap[n]? = some (.map es xs.length)) (hn : σ n = τ b)
    (he : es'.toList = ents m.ka m.K m.va m.V 0 xs') : EvT (Rng E) σ w σ { w with heap := w.heap.setIfInBounds n (.map es' xs'.length) } ∧ Conc E σ τ β ⟨tm, H.set b (.map m xs')⟩ a { w with heap := w.heap.setIfInBounds n (.map es' xs'.length) } := by
  have hev : EvT (fun t => t = τ b) σ w σ { w with heap := w.heap.setIfInBounds n (.map es' xs'.length) } := by rw [← hn]; exact ev_map hb
  have hP := hC.apart b _ hx rfl
  have hlt := (Array.getElem?_eq_some_iff.1 hb).1
  refine ⟨hev.mono (fun t h hp => hP (h ▸ hp)), Conc.put hC hx rfl hv hev ⟨n, es', e1, ?_, hn, he⟩⟩
  show (w.heap.setIfInBounds n _)[n]? = _
  rw [Array.getElem?_setIfInBounds]
  simp [hlt]

theorem lookup_sound {t : TypeId} {x k : Operand} {ok : Bool} {y : AV} (hC : Conc E σ τ β ⟨tm, H⟩ a w) (ho : o.op = .lookup t x k ok) (h : lookupX P H t (aeval tm x) (aeval tm k) ok = some y) : OpOut P E σ β tm a w o H y := by
  have hx := aeval_rel hC x
  have hk := aeval_rel hC k
  unfold lookupX at h
  split at h
  case h_2 => cases h
  rename_i b hab
  rw [hab] at hx
  split at h
  case h_2 => cases h
  rename_i m xs hm
  obtain ⟨g1, g2, g3, g4⟩ := mapX_some hm
  split at h
  case h_2 => cases h
  rename_i key z hkey hz
  obtain ⟨_, hkv⟩ := decF_rel hkey hk
  simp only [Rel] at hx
  have hB := hC.look g1 hx.1
  obtain ⟨n, es, e1, e2, e3, e4⟩ := hB
  have hfind := find_run (P := P) (w := w) (va := m.va) (V := m.V) g3 key xs 0
  have hget := mfind_get (K := m.K) (V := m.V) xs key 0
  simp only [Option.some.injEq] at h
  subst h
  have hl : (Instr.lookup t (a.eval x) (a.eval k) ok).run P w = .ok (resV ok (valF m.va m.V ((mget m.K m.V xs key).getD z)) (mget m.K m.V xs key).isSome) w := by
    unfold Instr.lookup
    simp only [Sem.run_bind, run_underlying g2, Result.andThen_ok]
    rw [e1, hkv]
    simp only [Sem.run_bind, MapKept.run_getObj_map e2, Result.andThen_ok, Sem.run_pure, keyB_check (w := w) g3, e4, hfind]
    rw [hget]
    cases hf : mfind m.K m.V xs key 0 with
    | none =>
      simp only [Option.map_none, Sem.run_bind, zeroM_run hz, Result.andThen_ok, Sem.run_pure, Option.getD_none, Option.isSome_none]
      cases ok <;> rfl
    | some r =>
      simp only [Option.map_some, Sem.run_bind, Sem.run_pure, Result.andThen_ok, Option.getD_some, Option.isSome_some]
      cases ok <;> rfl
  refine OpOut.same hC (v := resV ok (valF m.va m.V ((mget m.K m.V xs key).getD z)) (mget m.K m.V xs key).isSome) ?_ ?_
  · simp only [execOp, ho, Sem.run_bind, Sem.run_map, hl]
    rfl
  · cases ok with
    | false => exact encA_rel
    | true =>
      simp only [resA, resV, Rel]
      refine ⟨[valF m.va m.V ((mget m.K m.V xs key).getD z), .bool (mget m.K m.V xs key).isSome], rfl, ?_⟩
      simp only [RelL]
      exact ⟨_, _, rfl, encA_rel, _, _, rfl, by simp [Rel], rfl⟩

omit [Dr] in
/-- the entry that a key has -/
theorem hit_parts {m : MTy} {xs : Mp m.K m.V} {es : Array MapEntry} {key : m.K.Den} {i : Nat} {v y : m.V.Den} (hk : flatT m.K = true) (he : es.toList = ents m.ka m.K m.va m.V 0 xs) (hf : mfind m.K m.V xs key 0 = some (i, v)) :
    (((es[i]?).map (·.key)).getD (valF m.ka m.K key) = valF m.ka m.K key) ∧ (es.modify i fun e => { e with key := valF m.ka m.K key, val := valF m.va m.V y }).toList = ents m.ka m.K m.va m.V 0 (mset m.K m.V xs key y) ∧ (mset m.K m.V xs key y).length = xs.length ∧
      (((es[i]?).map (·.born)).getD 0 = mpos m.K m.V xs key) := by
  have hf' : mfind m.K m.V xs key 0 = some (0 + i, v) := by rw [Nat.zero_add]; exact hf
  obtain ⟨h1, h2, h3⟩ := ents_hit (ka := m.ka) (va := m.va) (j := 0) y hk hf'
  have h4 := mpos_hit (ka := m.ka) (va := m.va) (j := 0) hf'
  have ei : es[i]? = (ents m.ka m.K m.va m.V 0 xs)[i]? := by rw [← he, Array.getElem?_toList]
  refine ⟨by rw [ei, h3]; rfl, by rw [Array.toList_modify, he, h1], h2, by rw [ei, h4]; simp⟩
theorem upd_sound {t : TypeId} {x k v : Operand} {H' : List AB} (hC : Conc E σ τ β ⟨tm, H⟩ a w) (ho : o.op = .mapUpdate t x k v) (h : updX P H t (aeval tm x) (aeval tm k) (aeval tm v) = some H') : OpOut P E σ β tm a w o H' .unk := by
  have hx := aeval_rel hC x
  have hk := aeval_rel hC k
  have hv := aeval_rel hC v
  unfold updX at h
  split at h
  case h_2 => cases h
  rename_i b hab
  rw [hab] at hx
  split at h
  case h_2 => cases h
  rename_i m xs hm
  obtain ⟨g1, g2, g3, g4⟩ := mapX_some hm
  split at h
  case h_2 => cases h
  rename_i key y hkey hy
  obtain ⟨hfk, hkv⟩ := decF_rel hkey hk
  obtain ⟨_, hyv⟩ := decF_rel hy hv
  obtain rfl := Option.some.inj h
  simp only [Rel] at hx
  obtain ⟨n, es, e1, e2, e3, e4⟩ := hC.heap b _ _ g1 hx.1
  have hfind := find_run (P := P) (w := w) (va := m.va) (V := m.V) g3 key xs 0
  rw [← e4] at hfind
  cases hf : mfind m.K m.V xs key 0 with
  | none =>
    obtain ⟨h1, h2⟩ := ents_new (ka := m.ka) (va := m.va) (j := 0) y hf
    obtain ⟨hev, hC'⟩ := put_map (es' := es.push ⟨valF m.ka m.K key, valF m.va m.V y, xs.length⟩) (xs' := mset m.K m.V xs key y) hC g1 hx.1 e1 e2 e3 (by rw [Array.toList_push, e4, h1]; simp)
    refine OpGives.unit σ (w' := { w with heap := w.heap.setIfInBounds n (.map (es.push ⟨valF m.ka m.K key, valF m.va m.V y, xs.length⟩) (mset m.K m.V xs key y).length) }) ?_ ⟨τ, β, ⟨[], by simp⟩, hev, hC', by simp [Rel]⟩
    rw [hf] at hfind
    have : (Instr.mapUpdate t (a.eval x) (a.eval k) (a.eval v)).run P w = .ok () { w with heap := w.heap.setIfInBounds n (.map (es.push ⟨valF m.ka m.K key, valF m.va m.V y, xs.length⟩) (mset m.K m.V xs key y).length) } := by
      unfold Instr.mapUpdate
      rw [e1, hkv, hyv]
      simp only [Sem.run_bind, run_underlying g2, MapKept.run_getObj_map e2, keyB_check (w := w) g3, hfind, Result.andThen_ok, Option.map_none, run_setMap _ e2, h2]
    simp only [execOp, ho, Sem.run_bind, Sem.run_map, this]
    rfl
  | some r =>
    obtain ⟨i, v0⟩ := r
    obtain ⟨h0, h1, h2, _⟩ := hit_parts (y := y) hfk e4 hf
    obtain ⟨hev, hC'⟩ := put_map (xs' := mset m.K m.V xs key y) hC g1 hx.1 e1 e2 e3 h1
    refine OpGives.unit σ (w' := { w with heap := w.heap.setIfInBounds n (.map (es.modify i fun e => { e with key := valF m.ka m.K key, val := valF m.va m.V y }) (mset m.K m.V xs key y).length) }) ?_ ⟨τ, β, ⟨[], by simp⟩, hev, hC', by simp [Rel]⟩
    rw [hf] at hfind
    have : (Instr.mapUpdate t (a.eval x) (a.eval k) (a.eval v)).run P w = .ok () { w with heap := w.heap.setIfInBounds n (.map (es.modify i fun e => { e with key := valF m.ka m.K key, val := valF m.va m.V y }) (mset m.K m.V xs key y).length) } := by
      unfold Instr.mapUpdate
      rw [e1, hkv, hyv]
      simp only [Sem.run_bind, run_underlying g2, MapKept.run_getObj_map e2, keyB_check (w := w) g3, hfind, Result.andThen_ok, Option.map_some, h0, keyB_stays (w := w) g3, run_setMap _ e2, h2]
    simp only [execOp, ho, Sem.run_bind, Sem.run_map, this]
    rfl
omit [Dr] in
theorem mset_same {K V : Ty} (hk : flatT K = true) : ∀ {xs : Mp K V} {k : K.Den} {i : Nat} {j : Nat} {v : V.Den}, mfind K V xs k i = some (j, v) → mset K V xs k v = xs
  | [], _, _, _, _, h => by simp [mfind] at h
  | none :: l, k, i, j, v, h => by simp only [mfind] at h; simp only [mset, mset_same hk h]
  | some (k', v') :: l, k, i, j, v, h => by
    simp only [mfind] at h
    cases he : eqT K k k' with
    | true =>
      rw [he] at h
      simp only [cond_true, Option.some.injEq, Prod.mk.injEq] at h
      simp only [mset, he, cond_true, h.2]
    | false => rw [he] at h; simp only [mset, he, cond_false, mset_same hk (i := i + 1) h]
omit [Dr] in
theorem modify_key {l : List MapEntry} {i : Nat} {u : Value} (h : (l[i]?).map (·.key) = some u) : (l.modify i fun e => { e with key := u }) = l := by
  apply List.ext_getElem?
  intro q
  rw [List.getElem?_modify]
  by_cases hq : i = q
  · subst hq
    cases hl : l[i]? with
    | none => simp
    | some e =>
      rw [hl] at h
      simp only [Option.map_some, Option.some.injEq] at h
      subst h
      simp
  · simp [hq]
theorem entry_sound {t : TypeId} {x k : Operand} {H' : List AB} {y : AV} (hC : Conc E σ τ β ⟨tm, H⟩ a w) (ho : o.op = .mapEntry t x k) (h : entryX P H t (aeval tm x) (aeval tm k) = some (H', y)) : OpOut P E σ β tm a w o H' y := by
  have hx := aeval_rel hC x
  have hk := aeval_rel hC k
  unfold entryX at h
  split at h
  case h_2 => cases h
  rename_i b hab
  rw [hab] at hx
  split at h
  case h_2 => cases h
  rename_i m xs hm
  obtain ⟨g1, g2, g3, g4⟩ := mapX_some hm
  split at h
  case h_2 => cases h
  rename_i key z hkey hz
  obtain ⟨hfk, hkv⟩ := decF_rel hkey hk
  simp only [Option.some.injEq, Prod.mk.injEq] at h
  obtain ⟨rfl, rfl⟩ := h
  simp only [Rel] at hx
  obtain ⟨n, es, e1, e2, e3, e4⟩ := hC.heap b _ _ g1 hx.1
  have hfind := find_run (P := P) (w := w) (va := m.va) (V := m.V) g3 key xs 0
  rw [← e4] at hfind
  have hget := mfind_get (K := m.K) (V := m.V) xs key 0
  have hrel : ∀ (d : m.V.Den) (s : Nat) (w' : World), Rel E σ w' β (.tup [encA m.va m.V d, .val (.int .i64 s)]) (.tuple #[valF m.va m.V d, .int .i64 s]) := by
    intro d s w'
    simp only [Rel]
    refine ⟨[valF m.va m.V d, .int .i64 s], rfl, ?_⟩
    simp only [RelL]
    exact ⟨_, _, rfl, encA_rel, _, _, rfl, by simp [Rel], rfl⟩
  cases hf : mfind m.K m.V xs key 0 with
  | none =>
    have hg : (mget m.K m.V xs key).getD z = z := by rw [hget, hf]; rfl
    have hp : mpos m.K m.V xs key = xs.length := mpos_new hf
    rw [hg, hp]
    obtain ⟨h1, h2⟩ := ents_new (ka := m.ka) (va := m.va) (j := 0) z hf
    obtain ⟨hev, hC'⟩ := put_map (es' := es.push ⟨valF m.ka m.K key, valF m.va m.V z, xs.length⟩) (xs' := mset m.K m.V xs key z) hC g1 hx.1 e1 e2 e3 (by rw [Array.toList_push, e4, h1]; simp)
    refine OpGives.val σ (v := .tuple #[valF m.va m.V z, .int .i64 xs.length]) (w' := { w with heap := w.heap.setIfInBounds n (.map (es.push ⟨valF m.ka m.K key, valF m.va m.V z, xs.length⟩) (mset m.K m.V xs key z).length) }) ?_ ⟨τ, β, ⟨[], by simp⟩, hev, hC', hrel _ _ _⟩
    rw [hf] at hfind
    have : (Instr.mapEntry t (a.eval x) (a.eval k)).run P w = .ok (.tuple #[valF m.va m.V z, .int .i64 xs.length]) { w with heap := w.heap.setIfInBounds n (.map (es.push ⟨valF m.ka m.K key, valF m.va m.V z, xs.length⟩) (mset m.K m.V xs key z).length) } := by
      unfold Instr.mapEntry
      rw [e1, hkv]
      simp only [Sem.run_bind, run_underlying g2, MapKept.run_getObj_map e2, keyB_check (w := w) g3, hfind, Result.andThen_ok, Option.map_none, zeroM_run hz, run_setMap _ e2, h2, Sem.run_pure, goInt]
    simp only [execOp, ho, Sem.run_bind, Sem.run_map, this]
    rfl
  | some r =>
    obtain ⟨i, v0⟩ := r
    have hg : (mget m.K m.V xs key).getD z = v0 := by rw [hget, hf]; rfl
    rw [hg, mset_same hfk hf]
    obtain ⟨h0, _, _, hb⟩ := hit_parts (y := v0) hfk e4 hf
    have hb' : ((es[i]?).map fun x => (x.born : Int)).getD 0 = (mpos m.K m.V xs key : Int) := by
      rw [← hb]
      cases es[i]? <;> rfl
    have hkey' : (es.modify i fun e => { e with key := valF m.ka m.K key }).toList = ents m.ka m.K m.va m.V 0 xs := by
      rw [Array.toList_modify, modify_key, e4]
      rw [e4]
      exact (ents_hit (ka := m.ka) (va := m.va) (j := 0) (i := 0) (n := i) v0 hfk (by rw [Nat.zero_add]; exact hf)).2.2
    obtain ⟨hev, hC'⟩ := put_map (xs' := xs) hC g1 hx.1 e1 e2 e3 hkey'
    refine OpGives.val σ (v := .tuple #[valF m.va m.V v0, .int .i64 (mpos m.K m.V xs key)]) (w' := { w with heap := w.heap.setIfInBounds n (.map (es.modify i fun e => { e with key := valF m.ka m.K key }) xs.length) }) ?_ ⟨τ, β, ⟨[], by simp⟩, hev, hC', hrel _ _ _⟩
    rw [hf] at hfind
    have : (Instr.mapEntry t (a.eval x) (a.eval k)).run P w = .ok (.tuple #[valF m.va m.V v0, .int .i64 (mpos m.K m.V xs key)]) { w with heap := w.heap.setIfInBounds n (.map (es.modify i fun e => { e with key := valF m.ka m.K key }) xs.length) } := by
      unfold Instr.mapEntry
      rw [e1, hkv]
      simp only [Sem.run_bind, run_underlying g2, MapKept.run_getObj_map e2, keyB_check (w := w) g3, hfind, Result.andThen_ok, Option.map_some, h0, keyB_stays (w := w) g3, run_setMap _ e2, Sem.run_pure, goInt, hb']
    simp only [execOp, ho, Sem.run_bind, Sem.run_map, this]
    rfl
theorem estore_sound {t : TypeId} {x s v : Operand} {H' : List AB} (hC : Conc E σ τ β ⟨tm, H⟩ a w) (ho : o.op = .entryStore t x s v) (h : estoreX P H t (aeval tm x) (aeval tm s) (aeval tm v) = some (true, H')) : OpOut P E σ β tm a w o H' .unk := by
  have hx := aeval_rel hC x
  have hs := aeval_rel hC s
  have hv := aeval_rel hC v
  unfold estoreX at h
  split at h
  case h_2 => cases h
  rename_i b n0 hab hsn
  rw [hab] at hx
  rw [hsn] at hs
  split at h
  case h_2 => cases h
  rename_i m xs hm
  obtain ⟨g1, g2, g3, g4⟩ := mapX_some hm
  split at h
  case h_2 => cases h
  rename_i y hy
  obtain ⟨_, hyv⟩ := decF_rel hy hv
  simp only [Option.some.injEq, Prod.mk.injEq, Bool.and_eq_true, decide_eq_true_eq] at h
  obtain ⟨⟨hn0, hhas⟩, rfl⟩ := h
  simp only [Rel] at hx hs
  obtain ⟨n, es, e1, e2, e3, e4⟩ := hC.heap b _ _ g1 hx.1
  obtain ⟨i, h1, h2⟩ := ents_at (ka := m.ka) (va := m.va) (j := 0) y hhas
  have hnn : ((0 + n0.toNat : Nat) : Int) = n0 := by omega
  rw [hnn, ← e4] at h1
  have h1' : es.findIdx? (fun e => (e.born : Int) == n0) = some i := by
    have : es.findIdx? (fun e => (e.born : Int) == n0) = es.toList.findIdx? (fun e => (e.born : Int) == n0) := by cases es; simp
    rw [this]; exact h1
  obtain ⟨hev, hC'⟩ := put_map (es' := es.modify i fun e => { e with val := valF m.va m.V y }) (xs' := mput m.K m.V xs n0.toNat y) hC g1 hx.1 e1 e2 e3 (by rw [Array.toList_modify, e4, h2])
  refine OpGives.unit σ (w' := { w with heap := w.heap.setIfInBounds n (.map (es.modify i fun e => { e with val := valF m.va m.V y }) (mput m.K m.V xs n0.toNat y).length) }) ?_ ⟨τ, β, ⟨[], by simp⟩, hev, hC', by simp [Rel]⟩
  have : (Instr.entryStore t (a.eval x) (a.eval s) (a.eval v)).run P w = .ok () { w with heap := w.heap.setIfInBounds n (.map (es.modify i fun e => { e with val := valF m.va m.V y }) (mput m.K m.V xs n0.toNat y).length) } := by
    unfold Instr.entryStore
    rw [e1, hs, hyv]
    simp only [Sem.run_bind, MapKept.run_getObj_map e2, Result.andThen_ok, asInt, asIntOf, Sem.run_pure, h1', run_setMap _ e2, mput_len]
  simp only [execOp, ho, Sem.run_bind, Sem.run_map, this]
  rfl
theorem del_sound {t t2 : TypeId} {x k : Operand} {H' : List AB} (hC : Conc E σ τ β ⟨tm, H⟩ a w) (ho : o.op = .call { callee := .builtin .delete, args := #[x, k], argTypes := #[t, t2] }) (h : delX P H t (aeval tm x) (aeval tm k) = some H') : OpOut P E σ β tm a w o H' (.tup []) := by
  have hx := aeval_rel hC x
  have hk := aeval_rel hC k
  unfold delX at h
  split at h
  case h_2 => cases h
  rename_i b hab
  rw [hab] at hx
  split at h
  case h_2 => cases h
  rename_i m xs hm
  obtain ⟨g1, g2, g3, g4⟩ := mapX_some hm
  split at h
  case h_2 => cases h
  rename_i key hkey
  obtain ⟨hfk, hkv⟩ := decF_rel hkey hk
  obtain rfl := Option.some.inj h
  simp only [Rel] at hx
  obtain ⟨n, es, e1, e2, e3, e4⟩ := hC.heap b _ _ g1 hx.1
  have hfind := find_run (P := P) (w := w) (va := m.va) (V := m.V) g3 key xs 0
  rw [← e4] at hfind
  have fin : ∀ (es' : Array MapEntry), es'.toList = ents m.ka m.K m.va m.V 0 (mdel m.K m.V xs key) → (Builtin.delete_ #[t, t2] o.type #[a.eval x, a.eval k]).run P w = .ok (.tuple #[]) { w with heap := w.heap.setIfInBounds n (.map es' xs.length) } → OpOut P E σ β tm a w o (H.set b (.map m (mdel m.K m.V xs key))) (.tup []) := by
    intro es' he hrun
    obtain ⟨hev, hC'⟩ := put_map (es' := es') (xs' := mdel m.K m.V xs key) hC g1 hx.1 e1 e2 e3 he
    rw [mdel_len] at hev hC'
    refine OpGives.val σ (v := .tuple #[]) ?_ ⟨τ, β, ⟨[], by simp⟩, hev, hC', ?_⟩
    · simp [execOp, ho, resolve, invoke, builtin, hrun]
    · simp only [Rel]; exact ⟨[], rfl, by simp [RelL]⟩
  cases hf : mfind m.K m.V xs key 0 with
  | none =>
    refine fin es (by rw [mdel_new hf, e4]) ?_
    rw [hf] at hfind
    unfold Builtin.delete_
    rw [e1, hkv]
    simp [run_underlying g2, MapKept.run_getObj_map e2, keyB_check (w := w) g3, hfind, run_setMap _ e2]
  | some r =>
    obtain ⟨i, v0⟩ := r
    have hd := mdel_hit (ka := m.ka) (va := m.va) (j := 0) (i := 0) (n := i) (xs := xs) (k := key) (v := v0) (by rw [Nat.zero_add]; exact hf)
    have hlen : i < es.size := by
      have := (ents_hit (ka := m.ka) (va := m.va) (j := 0) (i := 0) (n := i) v0 hfk (by rw [Nat.zero_add]; exact hf)).2.2
      obtain ⟨e, he, _⟩ := Option.map_eq_some_iff.1 this
      rw [← e4] at he
      simpa using (List.getElem?_eq_some_iff.1 he).1
    refine fin (es.eraseIdxIfInBounds i) (by rw [Array.eraseIdxIfInBounds, dif_pos hlen, Array.toList_eraseIdx, e4, hd]) ?_
    rw [hf] at hfind
    unfold Builtin.delete_
    rw [e1, hkv]
    simp [run_underlying g2, MapKept.run_getObj_map e2, keyB_check (w := w) g3, hfind, run_setMap _ e2]
theorem mlen_sound {t : TypeId} {x : Operand} {y : AV} (hC : Conc E σ τ β ⟨tm, H⟩ a w) (ho : o.op = .call { callee := .builtin .len, args := #[x], argTypes := #[t] }) (h : mlenX P H t (aeval tm x) = some y) : OpOut P E σ β tm a w o H y := by
  have hx := aeval_rel hC x
  unfold mlenX at h
  split at h
  case h_2 => cases h
  rename_i b hab
  rw [hab] at hx
  split at h
  case h_2 => cases h
  rename_i m xs hm
  obtain ⟨g1, g2, g3, g4⟩ := mapX_some hm
  obtain rfl := Option.some.inj h
  simp only [Rel] at hx
  obtain ⟨n, es, e1, e2, e3, e4⟩ := hC.look g1 hx.1
  have hl : es.size = mlen m.K m.V xs := by rw [← Array.length_toList, e4, mlen_ents]
  refine OpOut.same hC (v := .int .i64 (mlen m.K m.V xs)) ?_ (by simp [Rel])
  simp [execOp, ho, resolve, invoke, builtin, e1, Builtin.len_, run_underlying g2, goInt, MapKept.run_getObj_map e2, hl]
theorem make_sound {t : TypeId} {m : MTy} (hC : Conc E σ τ β ⟨tm, H⟩ a w) (ho : o.op = .makeMap t none) (h : makeX P t = some m) : OpOut P E σ β tm a w o (H ++ [.map m []]) (.map H.length) := by
  have hsz := hC.size
  simp only at hsz
  obtain ⟨t', hP, ht⟩ := conc_fresh hC
  have hev : EvT (fun _ => False) σ w (upd σ w.heap.size t') { w with heap := w.heap.push (.map #[] 0) } := by
    refine ⟨rfl, rfl, rfl, fun _ => Nat.le_refl _, by simp, fun b hb _ => ⟨?_, ?_⟩⟩
    · simp [upd, Nat.ne_of_lt hb]
    · show (w.heap.push _)[b]? = w.heap[b]?
      rw [Array.getElem?_push]
      rw [if_neg (Nat.ne_of_lt hb)]
  have hpre : ∃ s, β ++ [Value.map (some w.heap.size)] = β ++ s := ⟨_, rfl⟩
  refine OpGives.val (upd σ w.heap.size t') (v := .map (some w.heap.size)) (w' := { w with heap := w.heap.push (.map #[] 0) }) ?_ ⟨_, β ++ [.map (some w.heap.size)], hpre, hev.mono (fun _ h => h.elim), conc_new hC (hev.mono (fun _ h => h.elim)) hP ht ?_, ?_⟩
  · simp [execOp, ho, Instr.makeMap, newObj, Sem.run]
  · refine ⟨w.heap.size, #[], rfl, by simp, by simp [upd], rfl⟩
  · simp only [Rel]
    exact ⟨by rw [← hsz]; simp, rfl⟩
omit [Dr] in
theorem map_set {b : Nat} {m : MTy} {xs xs' : Mp m.K m.V} (h : H[b]? = some (.map m xs)) : HPres H (H.set b (.map m xs')) := .set h (fun _ => by simp)
omit [Dr] in
theorem updX_pres {t : TypeId} {x k v : AV} {H' : List AB} (h : updX P H t x k v = some H') : HPres H H' := by
  unfold updX at h
  split at h
  case h_2 => cases h
  split at h
  case h_2 => cases h
  rename_i m xs hm
  split at h
  case h_2 => cases h
  obtain rfl := Option.some.inj h
  exact map_set (mapX_some hm).1
omit [Dr] in
theorem entryX_pres {t : TypeId} {x k : AV} {H' : List AB} {y : AV} (h : entryX P H t x k = some (H', y)) : HPres H H' := by
  unfold entryX at h
  split at h
  case h_2 => cases h
  split at h
  case h_2 => cases h
  rename_i m xs hm
  split at h
  case h_2 => cases h
  simp only [Option.some.injEq, Prod.mk.injEq] at h
  obtain ⟨rfl, _⟩ := h
  exact map_set (mapX_some hm).1
omit [Dr] in
theorem estoreX_pres {t : TypeId} {x k v : AV} {H' : List AB} {c : Bool} (h : estoreX P H t x k v = some (c, H')) : HPres H H' := by
  unfold estoreX at h
  split at h
  case h_2 => cases h
  split at h
  case h_2 => cases h
  rename_i m xs hm
  split at h
  case h_2 => cases h
  simp only [Option.some.injEq, Prod.mk.injEq] at h
  obtain ⟨_, rfl⟩ := h
  exact map_set (mapX_some hm).1
omit [Dr] in
theorem delX_pres {t : TypeId} {x k : AV} {H' : List AB} (h : delX P H t x k = some H') : HPres H H' := by
  unfold delX at h
  split at h
  case h_2 => cases h
  split at h
  case h_2 => cases h
  rename_i m xs hm
  split at h
  case h_2 => cases h
  obtain rfl := Option.some.inj h
  exact map_set (mapX_some hm).1
/-- Behind a mapEntry: each map has what it had, but that a key more may have its zero value. -/
def MapEq (P : Program) (H H' : List AB) : Prop :=
  ∀ (b : Nat) (m : MTy) (xs : Mp m.K m.V), look H b = some (.map m xs) → ∃ xs', look H' b = some (.map m xs') ∧ ∀ z, zeroM P m = some z → flatT m.K = true → ∀ k, (mget m.K m.V xs' k).getD z = (mget m.K m.V xs k).getD z
omit [Dr] in
theorem MapEq.refl (H : List AB) : MapEq P H H := fun b m xs h => ⟨xs, h, fun _ _ _ _ => rfl⟩
omit [Dr] in
theorem MapEq.trans {H H' H'' : List AB} (h : MapEq P H H') (k : MapEq P H' H'') : MapEq P H H'' := fun b m xs hb => by
  obtain ⟨xs', h1, h2⟩ := h b m xs hb
  obtain ⟨xs'', k1, k2⟩ := k b m xs' h1
  exact ⟨xs'', k1, fun z hz hk q => (k2 z hz hk q).trans (h2 z hz hk q)⟩
omit [Dr] in
theorem mget_mset {K V : Ty} (hk : flatT K = true) : ∀ (xs : Mp K V) (k : K.Den) (v : V.Den) (q : K.Den), mget K V (mset K V xs k v) q = bif eqT K q k then some v else mget K V xs q
  | [], k, v, q => by simp only [mset, mget]
  | none :: l, k, v, q => by simp only [mset, mget, mget_mset hk l k v q]
  | some (k', v') :: l, k, v, q => by
    simp only [mset]
    cases he : eqT K k k' with
    | true =>
      obtain rfl := (eqT_iff hk).1 he
      simp only [cond_true, mget]
      cases eqT K q k <;> rfl
    | false =>
      simp only [cond_false, mget, mget_mset hk l k v q]
      cases hq : eqT K q k' with
      | false => rfl
      | true =>
        obtain rfl := (eqT_iff hk).1 hq
        cases hqk : eqT K q k with
        | false => rfl
        | true =>
          obtain rfl := (eqT_iff hk).1 hqk
          rw [hq] at he; cases he
omit [Dr] in
theorem look_set {b : Nat} {x y : AB} {j : Nat} (h : H[b]? = some x) : look (H.set b y) j = if b = j then some y.bare else look H j := by
  unfold look
  rw [List.getElem?_set]
  by_cases hj : b = j
  · subst hj
    rw [if_pos rfl, if_pos (List.getElem?_eq_some_iff.1 h).1, if_pos rfl]
  · rw [if_neg hj, if_neg hj]
omit [Dr] in
theorem entry_mapEq {t : TypeId} {x k : AV} {H' : List AB} {y : AV} (h : entryX P H t x k = some (H', y)) : MapEq P H H' := by
  unfold entryX at h
  split at h
  case h_2 => cases h
  rename_i b
  split at h
  case h_2 => cases h
  rename_i m xs hm
  obtain ⟨g1, g2, g3, g4⟩ := mapX_some hm
  split at h
  case h_2 => cases h
  rename_i key z hkey hz
  simp only [Option.some.injEq, Prod.mk.injEq] at h
  obtain ⟨rfl, _⟩ := h
  intro b' m' xs' hb'
  by_cases hbb : b = b'
  · subst hbb
    have hl : look H b = some (.map m xs) := by unfold look; rw [g1]; rfl
    rw [hl] at hb'
    simp only [Option.some.injEq, AB.map.injEq] at hb'
    obtain ⟨rfl, hx⟩ := hb'
    obtain rfl := eq_of_heq hx
    refine ⟨_, by rw [look_set g1, if_pos rfl]; rfl, fun z' hz' hk q => ?_⟩
    rw [hz] at hz'
    obtain rfl := Option.some.inj hz'
    rw [mget_mset hk]
    cases hq : eqT m.K q key with
    | false => rfl
    | true =>
      obtain rfl := (eqT_iff hk).1 hq
      rfl
  · exact ⟨xs', by rw [look_set g1, if_neg hbb]; exact hb', fun _ _ _ _ => rfl⟩
omit [Dr] in
/-- A lookup without a second answer says the same then. -/
theorem lookupX_eq {H' : List AB} {t : TypeId} {x k : AV} {y : AV} (hE : MapEq P H H') (h : lookupX P H t x k false = some y) : lookupX P H' t x k false = some y := by
  unfold lookupX at h ⊢
  split at h
  case h_2 => cases h
  rename_i b
  split at h
  case h_2 => cases h
  rename_i m xs hm
  obtain ⟨g1, g2, g3, g4⟩ := mapX_some hm
  split at h
  case h_2 => cases h
  rename_i key z hkey hz
  obtain ⟨xs', h1, h2⟩ := hE b m xs g1
  have hm' : mapX P t (look H' b) = some ⟨m, xs'⟩ := by
    rw [h1]
    unfold mapX
    simp only [g2]
    have : (Nat.beq m.kt m.kt && (Nat.beq m.vt m.vt && (keyB P m.ka m.kt m.K && flatT m.V))) = true := by
      simp only [Nat.beq_refl, g3, g4, Bool.and_self]
    rw [this]
  simp only [hm', hkey, hz]
  simp only [Option.some.injEq] at h
  subst h
  simp only [resA, h2 z hz (keyB_flat g3) key]
theorem part_runV {t : TypeId} {cs : List AV} {vs : List Value} {off : Nat} {y : AV} (hr : RelL E σ w β cs vs) (h : partX P t cs off = some y) : ∃ u, (part t vs.toArray off).run P w = .ok u w ∧ Rel E σ w β y u := by
  unfold partX at h
  split at h
  · rename_i hs
    obtain ⟨u, h1, h2⟩ := RelL.get hr h
    exact ⟨u, part_scalar hs (by simpa using h1), h2⟩
  · split at h
    · rename_i i ha hi
      split at h
      · rename_i hb
        have hb := Nat.le_of_ble_eq_true hb
        simp only [Option.some.injEq] at h
        subst h
        have hl := hr.length
        refine ⟨.agg ((vs.drop off).take i.size).toArray, ?_, ?_⟩
        · have hsz : (sizeOf t).run P w = .ok i.size w := Go.Vk.run_sizeOf (by rw [hi]; rfl)
          simp only [part, Sem.run_bind, run_isAgg_true ha, Result.andThen_ok, if_true, hsz, Sem.run_pure]
          congr 2
          apply Array.ext'
          simp [List.extract_eq_take_drop]
        · simp only [Rel]
          exact ⟨_, rfl, RelL.take _ (RelL.drop _ hr)⟩
      · cases h
    · cases h
/-- A field of a known struct. -/
def fieldV (P : Program) (t : TypeId) (x : AV) (f : Nat) : Option AV :=
  match x with
  | .agg cs => match P.underlying t with
    | some (.struct fs) => match fs[f]? with
      | some fd => partX P fd.type cs fd.offset
      | none => none
    | _ => none
  | _ => none
theorem fieldV_sound {t : TypeId} {x : Operand} {f : Nat} {y : AV} (hC : Conc E σ τ β ⟨tm, H⟩ a w) (ho : o.op = .field t x f) (h : fieldV P t (aeval tm x) f = some y) : OpOut P E σ β tm a w o H y := by
  have hx := aeval_rel hC x
  unfold fieldV at h
  split at h
  case h_2 => cases h
  rename_i cs hcs
  rw [hcs] at hx
  simp only [Rel] at hx
  obtain ⟨vs, e, hr⟩ := hx
  split at h
  case h_2 => cases h
  rename_i fs hu
  split at h
  case h_2 => cases h
  rename_i fd hf
  obtain ⟨u, h1, h2⟩ := part_runV hr h
  refine OpOut.same hC (v := u) ?_ h2
  have : (Instr.field t (a.eval x) f).run P w = .ok u w := by
    unfold Instr.field
    rw [e]
    simp only [Sem.run_bind, run_underlying hu, Result.andThen_ok, hf, asAgg, Sem.run_pure, h1]
  simp only [execOp, ho, Sem.run_bind, Sem.run_map, this]
  rfl
end
end Go.Am
