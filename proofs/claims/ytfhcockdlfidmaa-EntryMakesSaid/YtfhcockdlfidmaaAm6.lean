/- The abstract machine, part 6: rows that grow, cuts. No statement of its own. -/
import Derived.Test.YtfhcockdlfidmaaAm5
namespace Go.Am
open Go.Vk Go.RowKit
set_option linter.unusedVariables false
set_option linter.unusedSimpArgs false
variable [Dr]

theorem run_app {α : Type} {P : Program} {K : Kd α} {w : World} {e st ot : TypeId} {σ : Gh} {t t2 : Nat} {v : Value} {xs ys : List α} {A : Option Addr} {c : Nat} {z : Value} {bytes : Nat}
    (hO : Own K e σ t w v xs) (hR : Rd K σ t2 w A ys) (ht : P.underlying st = some (.slice e)) (hinfo : (P.info? e).map (fun i => (i.zero, i.size, i.bytes)) = some (some z, K.sz, bytes)) (hz : z.cells.size = K.sz)
    (hsz : 0 < K.sz) (hby : bytes ≤ 128) (h1 : 1 ≤ t) (hb : xs.length + ys.length ≤ 1099511627776) :
    ∃ v1 w1 σ1, (Builtin.append_ #[st, st] ot #[v, .slice A ys.length c]).run P w = .ok v1 w1 ∧ Ev t (t + 1) σ w σ1 w1 ∧ Own K e σ1 t w1 v1 (xs ++ ys) := by
  obtain ⟨i0, hi, hzz⟩ := Option.map_eq_some_iff.1 hinfo
  simp only [Prod.mk.injEq] at hzz
  obtain ⟨hz0, hz1, hz2⟩ := hzz
  obtain ⟨cs, c1, c2, c3⟩ := hO
  have hbb : (xs.length + ys.length) * bytes ≤ 140737488355328 := Nat.le_trans (Nat.mul_le_mul hb hby) (by decide)
  rcases Nat.eq_zero_or_pos ys.length with h0 | h0
  · obtain rfl : ys = [] := List.eq_nil_of_length_eq_zero h0
    refine ⟨v, w, σ, ?_, Ev.refl .., cs, by simpa using c1, c2, by simpa using c3⟩
    rcases c1.2 with ⟨rfl, hn⟩ | ⟨g, cap, cur, rfl, _, _, hnc, _⟩
    · rcases A with _ | ad
      · simp [Builtin.append_, run_underlying ht, sizeOf, typeInfo, hi, Builtin.lenOf, Builtin.firstCells]
      · simp [Builtin.append_, run_underlying ht, sizeOf, typeInfo, hi, Builtin.lenOf, Builtin.firstCells, loadCells, loadCellsFrom]
    · rcases A with _ | ad
      · simp [Builtin.append_, run_underlying ht, sizeOf, typeInfo, hi, Builtin.lenOf, Builtin.firstCells, hnc, storeCells]
      · simp [Builtin.append_, run_underlying ht, sizeOf, typeInfo, hi, Builtin.lenOf, Builtin.firstCells, hnc, storeCells, loadCells, loadCellsFrom]
  · obtain ⟨ad, rfl, hlt, htag, hcell⟩ := hR h0
    obtain ⟨ds, d1, d2⟩ := Rd.cells hcell
    obtain ⟨v1, w1, hr, h2, h3, _, h5⟩ := run_append_own_at (P := P) w 0 st ot e i0 z K.sz bytes ht hi hz0 hz1 hz2 hz hsz v xs.length cs c1 ad ys.length c ds d1.len d2 d1.one (by simp only [maxLen]; omega) hbb (Nat.zero_le _)
    have hev : Ev t (t + 1) σ w (fun b => if b < w.heap.size then σ b else t) w1 := ev_grown h3 (run_drawn _ hr) (fun g hg => c2 g hg) t
    refine ⟨v1, w1, _, hr, hev, cs ++ ds, by simpa using h2, fun g hg => ?_, (c3.append d1).ev hev h1⟩
    rcases h5 with h5 | h5
    · have hv := c2 g (by rw [← h5]; exact hg)
      by_cases hgs : g < w.heap.size
      · simp [hgs, hv]
      · simp [hgs]
    · rw [h5] at hg
      injection hg with hg
      subst hg
      simp

section
variable {P : Program} {E : Env} {σ σ1 : Gh} {τ : Nat → Nat} {w w1 : World} {β : List Value} {tm : List AV} {H : List AB} {a : Act} {o : Oper}
omit [Dr] in
theorem tag_pos {t : Nat} (h : ¬ E.Kp t) : 1 ≤ t := by
  rcases Nat.eq_zero_or_pos t with h0 | h0
  · exact absurd (h0 ▸ E.sub _ E.nought) h
  · exact h0

/-- What is appended. -/
def srcX (H : List AB) (y : AV) : Option ((T : Ty) × List T.Den) :=
  match y with
  | .sv _ T ys => some ⟨T, ys⟩
  | .row r => match look H r with
    | some (.row T _ ys) => some ⟨T, ys⟩
    | _ => none
  | _ => none
theorem src_rel {y : AV} {T : Ty} {ys : List T.Den} {u : Value} (hC : Conc E σ τ β ⟨tm, H⟩ a w) (h : srcX H y = some ⟨T, ys⟩) (hr : Rel E σ w β y u) : ∃ A c t, u = .slice A ys.length c ∧ ys.length ≤ c ∧ Rd T.kd σ t w A ys := by
  cases y with
  | sv p T' ys' =>
    simp only [srcX, Option.some.injEq, Sigma.mk.injEq] at h
    obtain ⟨rfl, h⟩ := h
    obtain rfl := eq_of_heq h
    simp only [Rel] at hr
    obtain ⟨A, c, t, e1, e2, _, _, e5⟩ := hr
    exact ⟨A, c, t, e1, e2, e5⟩
  | row r =>
    simp only [srcX] at h
    split at h
    · rename_i T' e ys' hx
      simp only [Option.some.injEq, Sigma.mk.injEq] at h
      obtain ⟨rfl, h⟩ := h
      obtain rfl := eq_of_heq h
      simp only [Rel] at hr
      obtain ⟨A, c, e1, e2, _, e5⟩ := (show Own T'.kd e σ (τ r) w u ys' from hC.look hx hr.1).rd
      exact ⟨A, c, _, e1, e2, e5⟩
    · cases h
  | _ => simp [srcX] at h

def appendX (P : Program) (H : List AB) (st : TypeId) (x y : AV) : Option (Bool × List AB) :=
  match P.underlying st with
  | some (.slice e) => match P.info? e, srcX H y with
    | some ie, some ⟨T, ys⟩ => match ie.zero, Nat.ble ie.bytes 128, Nat.ble 1 ie.size, Nat.beq ie.size T.sz with
      | some z, true, true, true => match Nat.beq z.cells.size ie.size with
        | true => match x with
          | .val (.slice none 0 0) => some (decide (([] : List T.Den).length + ys.length ≤ 1099511627776), H ++ [.row T e ([] ++ ys)])
          | .row r => match H[r]? with
            | some (.row T' e' xs) => match tyEq T' T, natEq e' e with
              | some ⟨h⟩, some _ => some (decide ((castL h xs).length + ys.length ≤ 1099511627776), H.set r .gone ++ [.row T e (castL h xs ++ ys)])
              | _, _ => none
            | _ => none
          | _ => none
        | _ => none
      | _, _, _, _ => none
    | _, _ => none
  | _ => none
theorem append_sound {st : TypeId} {x y : Operand} {H' : List AB} (hC : Conc E σ τ β ⟨tm, H⟩ a w) (ho : o.op = .call { callee := .builtin .append, args := #[x, y], argTypes := #[st, st] })
    (h : appendX P H st (aeval tm x) (aeval tm y) = some (true, H')) : OpOut P E σ β tm a w o H' (.row H.length) := by
  have hx := aeval_rel hC x
  have hy := aeval_rel hC y
  unfold appendX at h
  split at h
  · rename_i e hu
    split at h
    · rename_i ie T ys hie hsrc
      split at h
      · rename_i z hz hby hsz1 hszT
        split at h
        · rename_i hzs
          have hby := Nat.le_of_ble_eq_true hby
          have hsz1 := Nat.le_of_ble_eq_true hsz1
          have hszT := Nat.eq_of_beq_eq_true hszT
          have hzs := Nat.eq_of_beq_eq_true hzs
          obtain ⟨A, c, t2, e1, e2, e3⟩ := src_rel hC hsrc hy
          have hinfo : (P.info? e).map (fun i => (i.zero, i.size, i.bytes)) = some (some z, T.kd.sz, ie.bytes) := by
            rw [hie]; simp only [Option.map_some, hz, hszT]; rfl
          have hfin : ∀ v v1 w1, a.eval x = v → (Builtin.append_ #[st, st] o.type #[v, .slice A ys.length c]).run P w = .ok v1 w1 → (execOp a.eval o).run P w = .ok (.value v1) w1 := by
            intro v v1 w1 hv hr
            simp only [execOp, ho, resolve, invoke, builtin, Sem.run_bind, Sem.run_pure, Result.andThen_ok, List.map_toArray, List.map_cons, List.map_nil, hv, e1, hr]
          split at h
          · rename_i hxv
            simp only [Option.some.injEq, Prod.mk.injEq] at h
            obtain ⟨hlen, rfl⟩ := h
            have hx : Rel E σ w β (.val (.slice none 0 0)) (a.eval x) := hxv ▸ hx
            simp only [Rel] at hx
            obtain ⟨t0, hP, ht⟩ := conc_fresh hC
            obtain ⟨v1, w1, σ1, r1, r2, r3⟩ := run_app (ot := o.type) (t := t0) (Own.nil (K := T.kd) (e := e) (σ := σ) (w := w)) e3 hu hinfo (by rw [hzs, hszT]; rfl) (show 0 < T.sz by omega) hby (tag_pos hP) (of_decide_eq_true hlen)
            have hev : EvT (fun t => t = t0) σ w σ1 w1 := EvT.of r2 (fun t h1 h2 => by omega)
            obtain ⟨q1, q2⟩ := conc_row hC hev hP ht r3
            exact OpGives.val σ1 (hfin _ _ _ hx r1) ⟨_, _, ⟨_, rfl⟩, hev.mono (fun t h hp => hP (h ▸ hp)), q1, q2⟩
          · rename_i r hxv
            have hx : Rel E σ w β (.row r) (a.eval x) := hxv ▸ hx
            simp only [Rel] at hx
            split at h
            · rename_i T' e' xs hr
              split at h
              · rename_i hT pe _ _
                obtain ⟨hE⟩ := pe
                simp only [Option.some.injEq, Prod.mk.injEq] at h
                obtain ⟨hlen, rfl⟩ := h
                subst hT hE
                have hP := hC.apart r _ hr rfl
                obtain ⟨v1, w1, σ1, r1, r2, r3⟩ := run_app (ot := o.type) (show Own T'.kd e' σ (τ r) w _ xs from hC.heap r _ _ hr hx.1) e3 hu hinfo (by rw [hzs, hszT]; rfl) (show 0 < T'.sz by omega) hby (tag_pos hP) (of_decide_eq_true hlen)
                have hev : EvT (fun t => t = τ r) σ w σ1 w1 := EvT.of r2 (fun t h1 h2 => by omega)
                have hp := Conc.put (y := .gone) hC hr rfl hx.1 hev trivial
                have hl : (H.set r .gone).length = H.length := by simp
                obtain ⟨q1, q2⟩ := conc_row (σ1 := σ1) (w1 := w1) (t := τ r) hp EvT.refl hP (fun i y hy hk h => by
                  rw [List.getElem?_set] at hy
                  by_cases hir : r = i
                  · rw [if_pos hir] at hy
                    split at hy
                    · obtain rfl := Option.some.inj hy
                      cases hk
                    · cases hy
                  · rw [if_neg hir] at hy
                    exact hir (hC.inj _ _ _ _ hr hy rfl hk h.symm)) r3
                rw [hl] at q2
                exact OpGives.val σ1 (hfin _ _ _ rfl r1) ⟨_, _, ⟨_, rfl⟩, hev.mono (fun t h hp => hP (h ▸ hp)), q1, q2⟩
              · cases h
            · cases h
          · cases h
        · cases h
      · cases h
    · cases h
  · cases h

/-! ### cuts -/
def boundX (tm : List AV) (d : Int) : Option Operand → Option Int
  | none => some d
  | some y => match aeval tm y with
    | .val (.int _ i) => some i
    | _ => none
/-- 'x[lo:hi]' of a slice that is read. -/
def cutX (P : Program) (tm : List AV) (t : TypeId) (x : AV) (lo hi : Option Operand) : Option (Bool × AV) :=
  match P.underlying t with
  | some (.slice e) => match x with
    | .sv p T xs => match (P.info? e).map (fun i => Nat.beq i.size T.sz), boundX tm 0 lo, boundX tm xs.length hi with
      | some true, some l, some h => some (decide (0 ≤ l) && (decide (l ≤ h) && decide (h ≤ (xs.length : Int))), .sv p T ((xs.take h.toNat).drop l.toNat))
      | _, _, _ => none
    | _ => none
  | _ => none
theorem bound_is {y : Option Operand} {d : Nat} {i : Int} (hC : Conc E σ τ β ⟨tm, H⟩ a w) (h : boundX tm d y = some i) (h0 : 0 ≤ i) : BoundIs a.eval y d i.toNat := by
  cases y with
  | none =>
    simp only [boundX, Option.some.injEq] at h
    subst h
    simp [BoundIs]
  | some y =>
    have hr := aeval_rel hC y
    simp only [boundX] at h
    split at h
    · rename_i k i' he
      simp only [Option.some.injEq] at h
      subst h
      have hr : Rel E σ w β (.val (.int k i')) (a.eval y) := he ▸ hr
      simp only [Rel] at hr
      exact ⟨k, i', hr, by omega⟩
    · cases h
theorem cut_sound {t : TypeId} {x : Operand} {lo hi : Option Operand} {y : AV} (hC : Conc E σ τ β ⟨tm, H⟩ a w) (ho : o.op = .slice t x lo hi none) (h : cutX P tm t (aeval tm x) lo hi = some (true, y)) : OpOut P E σ β tm a w o H y := by
  have hx := aeval_rel hC x
  unfold cutX at h
  split at h
  · rename_i e hu
    split at h
    · rename_i p T xs hv
      have hx : Rel E σ w β (.sv p T xs) (a.eval x) := hv ▸ hx
      split at h
      · rename_i l hh hsz hl hhi
        simp only [Option.some.injEq, Prod.mk.injEq, Bool.and_eq_true, decide_eq_true_eq] at h
        obtain ⟨⟨h0, h1, h2⟩, rfl⟩ := h
        obtain ⟨ti, hti, hbeq⟩ := Option.map_eq_some_iff.1 hsz
        have hsz : (P.info? e).map (·.size) = some T.sz := by rw [hti]; simpa using Nat.eq_of_beq_eq_true hbeq
        have hsz : (P.info? e).map (·.size) = some T.kd.sz := hsz
        simp only [Rel] at hx
        obtain ⟨A, c, t', e1, e2, e3, e4, e5⟩ := hx
        have hlen : ((xs.take hh.toNat).drop l.toNat).length = hh.toNat - l.toNat := by simp; omega
        have hr := ex_slice (P := P) (w := w) (l := l.toNat) (h := hh.toNat) ho hu hsz e1 (bound_is hC hl h0) (bound_is hC hhi (by omega)) (by omega) (by omega)
        rw [← hlen] at hr
        refine OpOut.same hC hr ?_
        simp only [Rel]
        exact ⟨_, _, t', rfl, by omega, e3, e4, (e5.take hh.toNat).drop l.toNat c (by simp; omega)⟩
      · cases h
    · cases h
  · cases h
end
end Go.Am
