/- The abstract machine, part 23: nil, strings, bytes, shifts, cuts of rows. No statement of its own. -/
import Derived.Test.YtfhcockdlfidmaaAm22
import Derived.Laws.BytesString
namespace Go.Am
open Go.Vk Go.RowKit
set_option linter.unusedVariables false
set_option linter.unusedSimpArgs false
variable [Dr]

/-- the string of bytes -/
def bytesS (xs : List Int) : ByteArray := xs.foldl (fun s n => s.push (UInt8.ofNat n.toNat)) ByteArray.empty
/-- an address, as a value -/
def adX : AV → Bool
  | .ptr _ _ => true
  | .ep .. => true
  | .rp .. => true
  | _ => false
/-- Something that is there, held against nil. -/
def nilX (P : Program) (o : Oper) (ρ : Operand → AV) : Option Value :=
  match o.op with
  | .binOp .eql t x y _ => match P.underlying t, ρ y with
    | some (.pointer _), .val (.pointer none) => match adX (ρ x) with
      | true => some (.bool false)
      | false => none
    | _, _ => none
  | .binOp .neq t x y _ => match P.underlying t, ρ y with
    | some (.pointer _), .val (.pointer none) => match adX (ρ x) with
      | true => some (.bool true)
      | false => none
    | _, _ => none
  | _ => none
def cutS (P : Program) (tm : List AV) (t : TypeId) (x : AV) (lo hi : Option Operand) : Option (Bool × AV) :=
  match P.underlying t, x with
  | some .string, .val (.string s) => match boundX tm 0 lo, boundX tm s.size hi with
    | some l, some h => some (decide (0 ≤ l) && (decide (l ≤ h) && decide (h ≤ (s.size : Int))), .val (.string (s.extract l.toNat h.toNat)))
    | _, _ => none
  | _, _ => none
/-- A cut of a known row: it is frozen. -/
def cutR (P : Program) (tm : List AV) (H : List AB) (t : TypeId) (x : AV) (lo hi : Option Operand) : Option (Bool × List AB × AV) :=
  match P.underlying t, x with
  | some (.slice e), .row r => match H[r]? with
    | some (.row T _ xs) => match (P.info? e).map (fun i => Nat.beq i.size T.sz), boundX tm 0 lo, boundX tm xs.length hi with
      | some true, some l, some h => some (decide (0 ≤ l) && (decide (l ≤ h) && decide (h ≤ (xs.length : Int))), H.set r .gone, .sv true T ((xs.take h.toNat).drop l.toNat))
      | _, _, _ => none
    | _ => none
  | _, _ => none
def b2sX (P : Program) (H : List AB) (src dst : TypeId) (x : AV) : Option AV :=
  match P.underlying src, P.underlying dst with
  | some (.slice e), some .string => match P.underlying e with
    | some (.int .u8) => match x with
      | .sv _ (.int .u8) xs => some (.val (.string (bytesS xs)))
      | .row r => match look H r with
        | some (.row (.int .u8) _ xs) => some (.val (.string (bytesS xs)))
        | _ => none
      | .val (.slice none 0 0) => some (.val (.string ByteArray.empty))
      | _ => none
    | _ => none
  | _, _ => none
section
variable {P : Program} {E : Env} {σ σ1 : Gh} {τ : Nat → Nat} {w w1 : World} {β : List Value} {tm : List AV} {H : List AB} {a : Act} {o : Oper}
theorem conc_freeze {r : Nat} {T : Ty} {e : TypeId} {xs : List T.Den} (hC : Conc E σ τ β ⟨tm, H⟩ a w) (hr : H[r]? = some (.row T e xs)) :
    ∃ σ', EvT (Rng E) σ w σ' w ∧ Conc E σ' τ β ⟨tm, H.set r .gone⟩ a w ∧ ∀ u, β[r]? = some u → Rel E σ' w β (.sv true T xs) u := by
  have hsz := hC.size
  simp only at hsz
  obtain ⟨v, hv⟩ : ∃ v, β[r]? = some v := ⟨_, List.getElem?_eq_getElem (by rw [hsz]; exact (List.getElem?_eq_some_iff.1 hr).1)⟩
  have hP := hC.apart r _ hr rfl
  obtain ⟨σ', h1, h2⟩ := (show Own T.kd e σ (τ r) w v xs from hC.heap r _ v hr hv).retag 0 (tag_pos hP)
  have hev : EvT (fun t => t = τ r) σ w σ' w := EvT.of h1 (fun t h1 h2 => by omega)
  refine ⟨σ', hev.mono (fun t h hp => hP (h ▸ hp)), Conc.put hC hr rfl hv hev trivial, fun u hu => ?_⟩
  rw [hv] at hu
  obtain rfl := Option.some.inj hu
  obtain ⟨A, c, e1, e2, _, e5⟩ := h2.rd
  simp only [Rel]
  exact ⟨A, c, 0, e1, e2, E.nought, fun _ => rfl, e5⟩
theorem adX_rel {x : AV} {u : Value} (h : adX x = true) (hr : Rel E σ w β x u) : ∃ ad, u = .pointer (some ad) := by
  cases x <;> try (simp [adX] at h; done)
  · simp only [Rel] at hr; obtain ⟨n, _, e⟩ := hr; exact ⟨_, e⟩
  · simp only [Rel] at hr; obtain ⟨ad, t, e, _⟩ := hr; exact ⟨_, e⟩
  · simp only [Rel] at hr; obtain ⟨ad, n, c, _, _, e⟩ := hr; exact ⟨_, e⟩
omit [Dr] in
theorem run_ptr_nil {t e : TypeId} {ad : Addr} (hu : P.underlying t = some (.pointer e)) : (Op.equal t (.pointer (some ad)) (.pointer none)).run P w = .ok false w := by
  have : ∀ d, (Op.equalIn (d + 1) t (.pointer (some ad)) (.pointer none)).run P w = .ok false w := fun d => by simp [Op.equalIn, run_underlying hu]
  exact this 9999
theorem nilX_sound {v : Value} (hC : Conc E σ τ β ⟨tm, H⟩ a w) (h : nilX P o (aeval tm) = some v) : OpOut P E σ β tm a w o H (.val v) := by
  unfold nilX at h
  split at h
  · rename_i t x y u ho
    split at h
    · rename_i e hu hy
      split at h
      · rename_i hx
        obtain rfl := Option.some.inj h
        obtain ⟨ad, e1⟩ := adX_rel hx (aeval_rel hC x)
        have h2 := aeval_rel hC y
        rw [show aeval (St.mk tm H).tmps y = _ from hy] at h2
        simp only [Rel] at h2
        refine OpOut.same hC (v := .bool false) ?_ (by simp [Rel])
        simp [execOp, ho, e1, h2, eqGuard, binOp, run_ptr_nil hu]
      · cases h
    · cases h
  · rename_i t x y u ho
    split at h
    · rename_i e hu hy
      split at h
      · rename_i hx
        obtain rfl := Option.some.inj h
        obtain ⟨ad, e1⟩ := adX_rel hx (aeval_rel hC x)
        have h2 := aeval_rel hC y
        rw [show aeval (St.mk tm H).tmps y = _ from hy] at h2
        simp only [Rel] at h2
        refine OpOut.same hC (v := .bool true) ?_ (by simp [Rel])
        simp [execOp, ho, e1, h2, eqGuard, binOp, run_ptr_nil hu]
      · cases h
    · cases h
  · cases h
omit [Dr] in
theorem ex_sliceS {ρ : Operand → Value} {t : TypeId} {x : Operand} {lo hi : Option Operand} {s : ByteArray} {l h : Nat} (ho : o.op = .slice t x lo hi none) (hu : P.underlying t = some .string) (hx : ρ x = .string s) (hl : BoundIs ρ lo 0 l) (hh : BoundIs ρ hi s.size h) (h1 : l ≤ h) (h2 : h ≤ s.size) :
    (execOp ρ o).run P w = .ok (.value (.string (s.extract l h))) w := by
  have hsl : (Instr.sliceAt t (ρ x) (lo.map ρ) (hi.map ρ) none).run P w = .ok (.string (s.extract l h)) w := by
    have hb : (Instr.sliceBounds false s.size s.size (lo.map ρ) (hi.map ρ) none).run P w = .ok (l, h, s.size) w := by
      cases lo <;> cases hi <;> simp only [BoundIs] at hl hh
      · subst hl hh; simp [Instr.sliceBounds]
      · obtain ⟨k, i, hk, rfl⟩ := hh; subst hl
        simp [Instr.sliceBounds, hk, Instr.sliceBound, asIntOf, h2]
      · obtain ⟨k, i, hk, rfl⟩ := hl; subst hh
        simp [Instr.sliceBounds, hk, Instr.sliceBound, asIntOf, h1]
      · obtain ⟨k, i, hk, rfl⟩ := hl; obtain ⟨k', i', hk', rfl⟩ := hh
        simp [Instr.sliceBounds, hk, hk', Instr.sliceBound, asIntOf, h1, h2]
    simp [Instr.sliceAt, Instr.slice, run_underlying hu, hx, hb]
  simp [execOp, ho, hsl]
theorem cutS_sound {t : TypeId} {x : Operand} {lo hi : Option Operand} {y : AV} (hC : Conc E σ τ β ⟨tm, H⟩ a w) (ho : o.op = .slice t x lo hi none) (h : cutS P tm t (aeval tm x) lo hi = some (true, y)) : OpOut P E σ β tm a w o H y := by
  have hx := aeval_rel hC x
  unfold cutS at h
  split at h
  · rename_i s hu hv
    rw [show aeval (St.mk tm H).tmps x = _ from hv] at hx
    simp only [Rel] at hx
    split at h
    · rename_i l hh hl hhi
      simp only [Option.some.injEq, Prod.mk.injEq, Bool.and_eq_true, decide_eq_true_eq] at h
      obtain ⟨⟨h0, h1, h2⟩, rfl⟩ := h
      exact OpOut.same hC (ex_sliceS (l := l.toNat) (h := hh.toNat) ho hu hx (bound_is hC hl h0) (bound_is hC hhi (by omega)) (by omega) (by omega)) (by simp [Rel])
    · cases h
  · cases h
theorem cutR_sound {t : TypeId} {x : Operand} {lo hi : Option Operand} {H' : List AB} {y : AV} (hC : Conc E σ τ β ⟨tm, H⟩ a w) (ho : o.op = .slice t x lo hi none) (h : cutR P tm H t (aeval tm x) lo hi = some (true, H', y)) : OpOut P E σ β tm a w o H' y := by
  have hx := aeval_rel hC x
  unfold cutR at h
  split at h
  case h_2 => cases h
  rename_i e r hu hv
  rw [show aeval (St.mk tm H).tmps x = _ from hv] at hx
  simp only [Rel] at hx
  split at h
  case h_2 => cases h
  rename_i T e' xs hr
  split at h
  case h_2 => cases h
  rename_i l hh hsz hl hhi
  simp only [Option.some.injEq, Prod.mk.injEq, Bool.and_eq_true, decide_eq_true_eq] at h
  obtain ⟨⟨h0, h1, h2⟩, rfl, rfl⟩ := h
  obtain ⟨ti, hti, hbeq⟩ := Option.map_eq_some_iff.1 hsz
  have hsz : (P.info? e).map (·.size) = some T.sz := by rw [hti]; simpa using Nat.eq_of_beq_eq_true hbeq
  have hsz : (P.info? e).map (·.size) = some T.kd.sz := hsz
  obtain ⟨σ', f1, f2, f3⟩ := conc_freeze hC hr
  have hsv := f3 _ hx.1
  simp only [Rel] at hsv
  obtain ⟨A, c, t', e1, e2, e3, e4, e5⟩ := hsv
  have hlen : ((xs.take hh.toNat).drop l.toNat).length = hh.toNat - l.toNat := by simp; omega
  have hrun := ex_slice (P := P) (w := w) (l := l.toNat) (h := hh.toNat) ho hu hsz e1 (bound_is hC hl h0) (bound_is hC hhi (by omega)) (by omega) (by omega)
  rw [← hlen] at hrun
  refine OpGives.val σ' hrun ⟨τ, β, ⟨[], by simp⟩, f1, f2, ?_⟩
  simp only [Rel]
  exact ⟨_, _, t', rfl, by omega, e3, e4, (e5.take hh.toNat).drop l.toNat c (by simp; omega)⟩
omit [Dr] in
theorem cutR_pres {t : TypeId} {x : AV} {lo hi : Option Operand} {H' : List AB} {y : AV} {c : Bool} (h : cutR P tm H t x lo hi = some (c, H', y)) : HPres H H' := by
  unfold cutR at h
  split at h
  case h_2 => cases h
  split at h
  case h_2 => cases h
  rename_i T e' xs hr
  split at h
  case h_2 => cases h
  simp only [Option.some.injEq, Prod.mk.injEq] at h
  obtain ⟨_, rfl, _⟩ := h
  exact .set hr (fun b => by simp)
theorem rd_bytes {t : Nat} {A : Option Addr} {c : Nat} {xs : List Int} (h : Rd (Ty.int .u8).kd σ t w A xs) : (Conv.bytesToString (.slice A xs.length c)).run P w = .ok (.string (bytesS xs)) w := by
  cases A with
  | none =>
    cases xs with
    | nil => rfl
    | cons x xs =>
      obtain ⟨ad, e, _⟩ := h (by simp)
      cases e
  | some ad =>
    refine run_bytesToString w ad xs.length c xs ?_
    have hl : (xs.map (Value.int .u8)).length = xs.length := by simp
    have := run_loadCells_list (P := P) w ad (xs.map (Value.int .u8)) (fun j v hj => ?_)
    · rw [hl] at this; exact this
    · simp only [List.getElem?_map, Option.map_eq_some_iff] at hj
      obtain ⟨x, hx, rfl⟩ := hj
      obtain ⟨hlt, hxe⟩ := List.getElem?_eq_some_iff.1 hx
      obtain ⟨ad', e, _, _, hcell⟩ := h (by omega)
      obtain rfl := Option.some.inj e
      obtain ⟨cs, hr, hcs⟩ := hcell j hlt
      have hr : cs = [.int .u8 xs[j]] := hr
      subst hr
      have := hcs 0 (.int .u8 xs[j]) rfl
      rw [hxe] at this
      simpa [Ty.kd, Ty.sz] using this
theorem b2s_sound {src dst : TypeId} {x : Operand} {y : AV} (hC : Conc E σ τ β ⟨tm, H⟩ a w) (ho : o.op = .convert src dst x) (h : b2sX P H src dst (aeval tm x) = some y) : OpOut P E σ β tm a w o H y := by
  have hx := aeval_rel hC x
  unfold b2sX at h
  split at h
  case h_2 => cases h
  rename_i e hs hd
  split at h
  case h_2 => cases h
  rename_i he
  have fin : ∀ {A : Option Addr} {n c : Nat} {s : ByteArray}, a.eval x = .slice A n c → (Conv.bytesToString (.slice A n c)).run P w = .ok (.string s) w → OpOut P E σ β tm a w o H (.val (.string s)) := by
    intro A n c s hv hrun
    refine OpOut.same hC (v := .string s) ?_ (by simp [Rel])
    have : (convert src dst (a.eval x)).run P w = .ok (.string s) w := by
      rw [hv]
      cases A <;> simp [convert, run_underlying hs, run_underlying hd, run_underlying he, hrun]
    simp only [execOp, ho, Sem.run_bind, Sem.run_map, this]
    rfl
  split at h
  · rename_i p xs hv
    rw [show aeval (St.mk tm H).tmps x = _ from hv] at hx
    simp only [Rel] at hx
    obtain ⟨A, c, t', e1, e2, e3, e4, e5⟩ := hx
    obtain rfl := Option.some.inj h
    exact fin e1 (rd_bytes e5)
  · rename_i r hv
    rw [show aeval (St.mk tm H).tmps x = _ from hv] at hx
    simp only [Rel] at hx
    split at h
    · rename_i e' xs hr
      obtain rfl := Option.some.inj h
      have hO : Own (Ty.int .u8).kd e' σ (τ r) w (a.eval x) xs := hC.look hr hx.1
      obtain ⟨A, c, e1, _, _, e5⟩ := hO.rd
      exact fin e1 (rd_bytes e5)
    · cases h
  · rename_i hv
    rw [show aeval (St.mk tm H).tmps x = _ from hv] at hx
    simp only [Rel] at hx
    obtain rfl := Option.some.inj h
    exact fin hx rfl
  · cases h
end
end Go.Am
