/- The abstract machine, part 3: loads, new blocks, stores, structs. No statement of its own. -/
import Derived.Test.YtfhcockdlfidmaaAm2
import Derived.Laws.Tables
namespace Go.Am
open Go.Vk Go.RowKit
set_option linter.unusedVariables false
set_option linter.unusedSimpArgs false
variable [Dr]

section
variable {P : Program} {E : Env} {σ : Gh} {τ : Nat → Nat} {w : World} {β : List Value} {tm : List AV} {H : List AB} {a : Act} {o : Oper}

theorem RelL.drop : ∀ {xs : List AV} {us : List Value} (n : Nat), RelL E σ w β xs us → RelL E σ w β (xs.drop n) (us.drop n)
  | [], us, n, h => by simp only [RelL] at h; subst h; simp [RelL]
  | x :: xs, us, 0, h => h
  | x :: xs, us, n + 1, h => by
    simp only [RelL] at h
    obtain ⟨v, r, rfl, h2, h3⟩ := h
    exact RelL.drop n h3
theorem RelL.take : ∀ {xs : List AV} {us : List Value} (n : Nat), RelL E σ w β xs us → RelL E σ w β (xs.take n) (us.take n)
  | [], us, n, h => by simp only [RelL] at h; subst h; simp [RelL]
  | x :: xs, us, 0, h => by simp [RelL]
  | x :: xs, us, n + 1, h => by
    simp only [RelL] at h
    obtain ⟨v, r, rfl, h2, h3⟩ := h
    simp only [List.take_succ_cons, RelL]
    exact ⟨v, r.take n, rfl, h2, RelL.take n h3⟩

/-! ### loads -/
/-- A value of type t, out of cells. -/
def partX (P : Program) (t : TypeId) (cs : List AV) (off : Nat) : Option AV :=
  match scalarB P t with
  | true => cs[off]?
  | false => match aggB P t, P.info? t with
    | true, some i => match Nat.ble (off + i.size) cs.length with
      | true => some (.agg ((cs.drop off).take i.size))
      | false => none
    | _, _ => none
theorem part_run {t : TypeId} {x : Operand} {cs : List AV} {vs : List Value} {ad : Addr} {off : Nat} {y : AV} (hC : Conc E σ τ β ⟨tm, H⟩ a w) (ho : o.op = .load t x) (hx : a.eval x = .pointer (some (ad.add off)))
    (hr : RelL E σ w β cs vs) (hc : ∀ j u, vs[j]? = some u → w.cell? (ad.add j) = some u) (h : partX P t cs off = some y) : (∃ u, (execOp a.eval o).run P w = .ok (.value u) w ∧ Rel E σ w β y u) := by
  unfold partX at h
  split at h
  · rename_i hs
    obtain ⟨u, h1, h2⟩ := RelL.get hr h
    exact ⟨_, ex_load1 ho hx hs (hc _ _ h1), h2⟩
  · split at h
    · rename_i i ha hi
      split at h
      · rename_i hb
        have hb := Nat.le_of_ble_eq_true hb
        simp only [Option.some.injEq] at h
        subst h
        have hl := hr.length
        have hlen : ((vs.drop off).take i.size).length = i.size := by simp; omega
        refine ⟨_, ex_loadN (cs := (vs.drop off).take i.size) ho hx ha (by rw [hi, hlen]; rfl) (fun j u hj => ?_), ?_⟩
        · rw [add_add]
          refine hc _ _ ?_
          rw [List.getElem?_take] at hj
          split at hj
          · rw [List.getElem?_drop] at hj; exact hj
          · cases hj
        · simp only [Rel]
          exact ⟨_, rfl, RelL.take _ (RelL.drop _ hr)⟩
      · cases h
    · cases h

def loadX (P : Program) (H : List AB) (t : TypeId) (x : AV) : Option AV :=
  match x with
  | .ptr b off => match look H b with
    | some (.cells _ cs) => partX P t cs off
    | _ => none
  | .ep _ T xs i off => partX P t (enc T (xs.getD i (Ty.dfl T))) off
  | .rp r sz i off => match look H r with
    | some (.row T _ xs) => match Nat.beq sz T.sz with
      | true => partX P t (enc T (xs.getD i (Ty.dfl T))) off
      | false => none
    | _ => none
  | _ => none
omit [Dr] in
theorem cells_blk {t n : Nat} {T : TypeId} {vs : List Value} (h : Blk σ t w n T vs.toArray) : ∀ j u, vs[j]? = some u → w.cell? ((⟨n, 0, none⟩ : Addr).add j) = some u := fun j u hu => by
  rw [add_mk, h.cell, Nat.zero_add]; simpa using hu
theorem load_run {t : TypeId} {x : Operand} {y : AV} (hC : Conc E σ τ β ⟨tm, H⟩ a w) (ho : o.op = .load t x) (h : loadX P H t (aeval tm x) = some y) : (∃ u, (execOp a.eval o).run P w = .ok (.value u) w ∧ Rel E σ w β y u) := by
  have hx := aeval_rel hC x
  have elem : ∀ (T : Ty) (xs : List T.Den) (t' i off : Nat) (ad : Addr), Rd T.kd σ t' w (some ad) xs → i < xs.length → a.eval x = .pointer (some (ad.add (i * T.sz + off))) → partX P t (enc T (xs.getD i (Ty.dfl T))) off = some y → (∃ u, (execOp a.eval o).run P w = .ok (.value u) w ∧ Rel E σ w β y u) := by
    intro T xs t' i off ad hr hi hp h
    obtain ⟨ad', cs, e1, e2, e3⟩ := hr.at2 (i : Int) (by omega) (by omega) (Ty.dfl T)
    obtain rfl := Option.some.inj e1
    simp only [Int.toNat_natCast] at e2 e3
    exact part_run (ad := ad.add (i * T.sz)) hC ho (by rw [hp, add_add]) (enc_rel T e2) e3 h
  cases hv : aeval tm x with
  | ptr b off =>
    rw [hv] at h
    have hx : Rel E σ w β (.ptr b off) (a.eval x) := hv ▸ hx
    simp only [loadX] at h
    split at h
    · rename_i T cs hb
      simp only [Rel] at hx
      obtain ⟨n, h1, h2⟩ := hx
      obtain ⟨n', vs, e1, e2, e3⟩ := hC.look hb h1
      simp only [Value.pointer.injEq, Option.some.injEq, Addr.mk.injEq] at e1
      obtain ⟨rfl, _⟩ := e1
      refine part_run (ad := ⟨n, 0, none⟩) hC ho (by rw [h2, add_mk, Nat.zero_add]) e3 (cells_blk e2) h
    · cases h
  | ep p T xs i off =>
    rw [hv] at h
    have hx : Rel E σ w β (.ep p T xs i off) (a.eval x) := hv ▸ hx
    simp only [loadX] at h
    simp only [Rel] at hx
    obtain ⟨ad, t', h1, h2, h3, h4, h5⟩ := hx
    exact elem T xs t' i off ad h5 h2 h1 h
  | rp r sz i off =>
    rw [hv] at h
    have hx : Rel E σ w β (.rp r sz i off) (a.eval x) := hv ▸ hx
    simp only [loadX] at h
    split at h
    · rename_i T e xs hr
      split at h
      · rename_i hsz
        have hsz := Nat.eq_of_beq_eq_true hsz
        subst hsz
        simp only [Rel] at hx
        obtain ⟨ad, n, c, h1, h2, h3⟩ := hx
        obtain ⟨A, c', e1, e2, _, e5⟩ := (show Own T.kd e σ (τ r) w _ xs from hC.look hr h1).rd
        injection e1 with e6 e7 e8
        subst e6 e7
        exact elem T xs _ i off ad e5 h2 h3 h
      · cases h
    · cases h
  | _ => rw [hv] at h; simp [loadX] at h

theorem load_sound {t : TypeId} {x : Operand} {y : AV} (hC : Conc E σ τ β ⟨tm, H⟩ a w) (ho : o.op = .load t x) (h : loadX P H t (aeval tm x) = some y) : OpOut P E σ β tm a w o H y := by
  obtain ⟨u, h1, h2⟩ := load_run hC ho h
  exact OpOut.same hC h1 h2

/-! ### the length -/
def lenX (P : Program) (H : List AB) (t : TypeId) (x : AV) : Option AV :=
  match P.underlying t with
  | some (.slice _) => match x with
    | .sv _ _ xs => some (.val (.int .i64 xs.length))
    | .row r => match look H r with
      | some (.row _ _ xs) => some (.val (.int .i64 xs.length))
      | _ => none
    | _ => none
  | _ => none
theorem len_sound {x : Operand} {t : TypeId} {y : AV} (hC : Conc E σ τ β ⟨tm, H⟩ a w) (ho : o.op = .call { callee := .builtin .len, args := #[x], argTypes := #[t] }) (h : lenX P H t (aeval tm x) = some y) : OpOut P E σ β tm a w o H y := by
  have hx := aeval_rel hC x
  unfold lenX at h
  split at h
  · rename_i e hu
    have hrun : ∀ A n c, a.eval x = .slice A n c → (execOp a.eval o).run P w = .ok (.value (.int .i64 n)) w := fun A n c he => by
      simp [execOp, ho, resolve, invoke, builtin, he, Builtin.len_, run_underlying hu, goInt]
    cases hv : aeval tm x with
    | sv p T xs =>
      rw [hv] at h
      have hx : Rel E σ w β (.sv p T xs) (a.eval x) := hv ▸ hx
      simp only [Option.some.injEq] at h
      subst h
      simp only [Rel] at hx
      obtain ⟨A, c, t', e1, _⟩ := hx
      exact OpOut.same hC (hrun _ _ _ e1) (by simp [Rel])
    | row r =>
      rw [hv] at h
      have hx : Rel E σ w β (.row r) (a.eval x) := hv ▸ hx
      simp only at h
      split at h
      · rename_i T e xs hr
        simp only [Option.some.injEq] at h
        subst h
        simp only [Rel] at hx
        obtain ⟨A, c', e1, _⟩ := (show Own T.kd e σ (τ r) w _ xs from hC.look hr hx.1).rd
        exact OpOut.same hC (hrun _ _ _ e1) (by simp [Rel])
      · cases h
    | _ => rw [hv] at h; simp at h
  · cases h

/-! ### cells of a value -/
/-- a value of one cell, as far as is known -/
def AV.one : AV → Bool
  | .unk => false
  | .val v => v.oneCell'
  | .agg _ | .tup _ => false
  | _ => true
theorem one_rel {x : AV} {u : Value} (h : Rel E σ w β x u) (h1 : x.one = true) : u.oneCell' = true := by
  cases x <;> simp only [AV.one] at h1 <;> try (cases h1; done)
  all_goals simp only [Rel] at h
  · rw [h]; exact h1
  · obtain ⟨n, _, rfl⟩ := h; rfl
  · obtain ⟨A, c, t, rfl, _⟩ := h; rfl
  · obtain ⟨A, t, rfl, _⟩ := h; rfl
  · exact h.2
  · obtain ⟨ad, n, c, _, _, rfl⟩ := h; rfl
  · exact h.2
  · obtain ⟨vs, us, rfl, _⟩ := h; rfl
  · obtain ⟨v, rfl, _⟩ := h; rfl
def cellsA (x : AV) : Option (List AV) :=
  match x with
  | .agg cs => match cs.all AV.one with
    | true => some cs
    | false => none
  | .val (.agg vs) => match vs.toList.all Value.oneCell' with
    | true => some (vs.toList.map .val)
    | false => none
  | x => match x.one with
    | true => some [x]
    | false => none
theorem relL_vals : ∀ (vs : List Value), RelL E σ w β (vs.map .val) vs
  | [] => by simp [RelL]
  | v :: vs => by simp only [List.map_cons, RelL]; exact ⟨v, vs, rfl, by simp [Rel], relL_vals vs⟩
theorem ones_rel : ∀ {xs : List AV} {us : List Value}, RelL E σ w β xs us → xs.all AV.one = true → ∀ u ∈ us, u.oneCell' = true
  | [], us, h, _, u, hu => by simp only [RelL] at h; subst h; cases hu
  | x :: xs, us, h, h1, u, hu => by
    simp only [RelL] at h
    obtain ⟨v, r, rfl, h2, h3⟩ := h
    simp only [List.all_cons, Bool.and_eq_true] at h1
    rcases List.mem_cons.1 hu with rfl | hu
    · exact one_rel h2 h1.1
    · exact ones_rel h3 h1.2 u hu
omit [Dr] in
theorem cells_one {u : Value} (h : u.oneCell' = true) : u.cells = #[u] := by cases u <;> first | rfl | simp [Value.oneCell'] at h
theorem cellsA_rel {x : AV} {u : Value} {cs : List AV} (h : Rel E σ w β x u) (hc : cellsA x = some cs) : RelL E σ w β cs u.cells.toList ∧ ∀ v ∈ u.cells.toList, v.oneCell' = true := by
  unfold cellsA at hc
  split at hc
  · split at hc
    · rename_i hall
      simp only [Option.some.injEq] at hc
      subst hc
      simp only [Rel] at h
      obtain ⟨vs, rfl, h2⟩ := h
      exact ⟨by simpa [Value.cells] using h2, by simpa [Value.cells] using ones_rel h2 hall⟩
    · cases hc
  · rename_i vs
    split at hc
    · rename_i hall
      simp only [Option.some.injEq] at hc
      subst hc
      simp only [Rel] at h
      subst h
      refine ⟨by simpa [Value.cells] using relL_vals vs.toList, fun v hv => ?_⟩
      exact List.all_eq_true.1 hall v (by simpa [Value.cells] using hv)
    · cases hc
  · split at hc
    · rename_i h1
      simp only [Option.some.injEq] at hc
      subst hc
      have := one_rel h h1
      rw [cells_one this]
      refine ⟨?_, fun v hv => ?_⟩
      · simp only [RelL]; exact ⟨u, [], rfl, h, rfl⟩
      · simp only [List.mem_singleton] at hv; rw [hv]; exact this
    · cases hc

/-! ### new blocks -/
/-- A tag for a new block. -/
def updT (τ : Nat → Nat) (n t : Nat) : Nat → Nat := fun i => if i = n then t else τ i
theorem conc_new {x : AB} {v : Value} {t : Nat} {σ1 : Gh} {w1 : World} (hC : Conc E σ τ β ⟨tm, H⟩ a w) (hev : EvT (fun t' => t' = t) σ w σ1 w1) (hP : ¬ E.Kp t) (ht : ∀ (i : Nat) (y : AB), H[i]? = some y → y.live = true → τ i ≠ t)
    (hb : BRel E σ1 w1 (β ++ [v]) t v x) : Conc E σ1 (updT τ H.length t) (β ++ [v]) ⟨tm, H ++ [x]⟩ a w1 := by
  have hsz := hC.size
  simp only at hsz
  have hP' : ∀ t', E.Pr t' → ¬ t' = t := fun t' ht h => hP (h ▸ E.sub _ ht)
  have hpre : ∃ s, β ++ [v] = β ++ s := ⟨_, rfl⟩
  have cases2 : ∀ (i : Nat) (y : AB), (H ++ [x])[i]? = some y → (H[i]? = some y ∧ i < H.length ∧ updT τ H.length t i = τ i) ∨ (i = H.length ∧ y = x ∧ updT τ H.length t i = t) := by
    intro i y hy
    rcases Nat.lt_or_ge i H.length with hi | hi
    · rw [List.getElem?_append_left hi] at hy
      exact .inl ⟨hy, hi, by simp [updT, Nat.ne_of_lt hi]⟩
    · rw [List.getElem?_append_right hi] at hy
      have h0 : i = H.length := by
        have := (List.getElem?_eq_some_iff.1 hy).1
        simp at this
        omega
      subst h0
      rw [Nat.sub_self] at hy
      simp only [List.getElem?_cons_zero, Option.some.injEq] at hy
      exact .inr ⟨rfl, hy.symm, by simp [updT]⟩
  refine ⟨hC.defers, RelL.more hpre (RelL.ev hev hP' hC.tmps), by simp [hsz], fun i y u hy hu => ?_, fun i y hy hl => ?_, fun i j y z hy hz hl hk he => ?_⟩
  · rcases cases2 i y hy with ⟨h1, h2, h3⟩ | ⟨rfl, rfl, h3⟩
    · rw [List.getElem?_append_left (by omega)] at hu
      rw [h3]
      exact BRel.more (BRel.ev (hC.heap i y u h1 hu) hev hP' (fun hl => ht i y h1 hl)) hpre
    · rw [List.getElem?_append_right (by omega), hsz, Nat.sub_self] at hu
      simp only [List.getElem?_cons_zero, Option.some.injEq] at hu
      subst hu
      rw [h3]; exact hb
  · rcases cases2 i y hy with ⟨h1, h2, h3⟩ | ⟨rfl, rfl, h3⟩
    · rw [h3]; exact hC.apart i y h1 hl
    · rw [h3]; exact hP
  · rcases cases2 i y hy with ⟨h1, h2, h3⟩ | ⟨rfl, rfl, h3⟩
    · rcases cases2 j z hz with ⟨k1, k2, k3⟩ | ⟨rfl, rfl, k3⟩
      · rw [h3, k3] at he; exact hC.inj i j y z h1 k1 hl hk he
      · rw [h3, k3] at he; exact absurd he (ht i y h1 hl)
    · rcases cases2 j z hz with ⟨k1, k2, k3⟩ | ⟨rfl, rfl, k3⟩
      · rw [h3, k3] at he; exact absurd he.symm (ht j z k1 hk)
      · rfl
theorem conc_fresh (hC : Conc E σ τ β ⟨tm, H⟩ a w) : ∃ t, ¬ E.Kp t ∧ ∀ (i : Nat) (y : AB), H[i]? = some y → y.live = true → τ i ≠ t := by
  obtain ⟨r, h1, h2⟩ := Gh.fresh τ E.bnd H.length
  refine ⟨r, fun h => by have := E.low _ h; omega, fun i y hy _ => ?_⟩
  have := h2 i (List.getElem?_eq_some_iff.1 hy).1
  omega
theorem conc_alloc {T : TypeId} {cs : List AV} {vs : Array Value} (hC : Conc E σ τ β ⟨tm, H⟩ a w) (hr : RelL E σ w β cs vs.toList) :
    ∃ σ' τ' β', (∃ s, β' = β ++ s) ∧ EvT (Rng E) σ w σ' { w with heap := w.heap.push (.cells vs T) } ∧ Conc E σ' τ' β' ⟨tm, H ++ [.cells T cs]⟩ a { w with heap := w.heap.push (.cells vs T) } ∧
      Rel E σ' { w with heap := w.heap.push (.cells vs T) } β' (.ptr H.length 0) (.pointer (some ⟨w.heap.size, 0, none⟩)) := by
  have hsz := hC.size
  simp only at hsz
  obtain ⟨t, hP, ht⟩ := conc_fresh hC
  have hev1 : Ev 1 1 σ w (upd σ w.heap.size t) { w with heap := w.heap.push (.cells vs T) } := ev_alloc σ w _ _ 1 1
  have hev : EvT (fun _ => False) σ w (upd σ w.heap.size t) { w with heap := w.heap.push (.cells vs T) } := EvT.of hev1 (fun t h1 h2 => by omega)
  have hpre : ∃ s, β ++ [Value.pointer (some ⟨w.heap.size, 0, none⟩)] = β ++ s := ⟨_, rfl⟩
  refine ⟨upd σ w.heap.size t, _, β ++ [.pointer (some ⟨w.heap.size, 0, none⟩)], hpre, hev.mono (fun _ h => h.elim), conc_new hC (hev.mono (fun _ h => h.elim)) hP ht ?_, ?_⟩
  · refine ⟨w.heap.size, vs.toList, rfl, ?_, RelL.more hpre (RelL.ev hev (fun _ _ h => h) hr)⟩
    have := blk_alloc σ w vs T t
    simpa using this
  · simp only [Rel]
    refine ⟨w.heap.size, ?_, rfl⟩
    rw [List.getElem?_append_right (by omega), hsz, Nat.sub_self]
    rfl

theorem box_sound {T : TypeId} {x : Operand} {cs : List AV} (hC : Conc E σ τ β ⟨tm, H⟩ a w) (ho : o.op = .box T x) (h : cellsA (aeval tm x) = some cs) : OpOut P E σ β tm a w o (H ++ [.cells T cs]) (.ptr H.length 0) := by
  obtain ⟨h1, _⟩ := cellsA_rel (aeval_rel hC x) h
  obtain ⟨σ', τ', β', h0, h2, h3, h4⟩ := conc_alloc (T := T) hC h1
  refine OpGives.val σ' ?_ ⟨τ', β', h0, h2, h3, h4⟩
  simp [execOp, ho, Instr.box, newVar, newRow, newObj, Sem.run]
def zeroX (P : Program) (T : TypeId) : Option (List AV) :=
  match (P.info? T).bind (·.zero) with
  | some z => some (z.cells.toList.map .val)
  | none => none
theorem alloc_sound {T : TypeId} {cs : List AV} (hC : Conc E σ τ β ⟨tm, H⟩ a w) (ho : o.op = .alloc T) (h : zeroX P T = some cs) : OpOut P E σ β tm a w o (H ++ [.cells T cs]) (.ptr H.length 0) := by
  unfold zeroX at h
  split at h
  · rename_i z hz
    simp only [Option.some.injEq] at h
    subst h
    obtain ⟨σ', τ', β', h0, h2, h3, h4⟩ := conc_alloc (T := T) (vs := z.cells) hC (relL_vals z.cells.toList)
    refine OpGives.val σ' ?_ ⟨τ', β', h0, h2, h3, h4⟩
    obtain ⟨i, hi, hzz⟩ := Option.bind_eq_some_iff.1 hz
    simp [execOp, ho, Instr.alloc, zeroValue, typeInfo, hi, hzz, newVar, newRow, newObj, Sem.run]
  · cases h
end
end Go.Am
