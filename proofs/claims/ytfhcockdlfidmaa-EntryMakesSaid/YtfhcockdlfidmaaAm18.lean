/- The abstract machine, part 18: a byte of a known string, a number of an array that is a value. No statement of its own. -/
import Derived.Test.YtfhcockdlfidmaaAm17
namespace Go.Am
open Go.Vk Go.RowKit
set_option linter.unusedVariables false
set_option linter.unusedSimpArgs false
variable [Dr]

/-- all cells, as numbers of a kind -/
def cellsK (k : IntKind) : List AV → Option (List Int)
  | [] => some []
  | .val (.int k' x) :: l => match kindEq k' k, cellsK k l with
    | some _, some xs => some (x :: xs)
    | _, _ => none
  | _ :: _ => none
def aggA : AV → Option (List AV)
  | .agg cs => some cs
  | .val (.agg vs) => some (vs.toList.map .val)
  | _ => none
/-- 'x[i]' of a value: whether it is there, and it -/
def indexV (P : Program) (o : Oper) (ρ : Operand → AV) : Option (Bool × Value) :=
  match o.op with
  | .index t x i => match P.underlying t, ρ i with
    | some .string, .val (.int _ n) => match ρ x with
      | .val (.string s) => some (decide (0 ≤ n) && decide (n < (s.size : Int)), .int .u8 ((s.get! n.toNat).toNat : Int))
      | _ => none
    | some (.array m e), .val (.int _ n) => match P.underlying e, aggA (ρ x), (P.info? e).map (fun i => Nat.beq i.size 1) with
      | some (.int k), some cs, some true => match cellsK k cs with
        | some xs => some (decide (0 ≤ n) && (decide (n < (m : Int)) && decide (n < (xs.length : Int))), .int k (xs.getD n.toNat 0))
        | none => none
      | _, _, _ => none
    | _, _ => none
  | _ => none
section
variable {P : Program} {E : Env} {σ σ1 : Gh} {τ : Nat → Nat} {w w1 : World} {β : List Value} {tm : List AV} {H : List AB} {a : Act} {o : Oper}
theorem cellsK_rel {k : IntKind} : ∀ {cs : List AV} {xs : List Int} {us : List Value}, cellsK k cs = some xs → RelL E σ w β cs us → us = xs.map (.int k)
  | [], xs, us, h, hr => by
    simp only [cellsK, Option.some.injEq] at h
    simp only [RelL] at hr
    subst h hr; rfl
  | c :: cs, xs, us, h, hr => by
    simp only [RelL] at hr
    obtain ⟨v, r, rfl, h2, h3⟩ := hr
    unfold cellsK at h
    split at h
    · rename_i heq; cases heq
    · rename_i k' x l heq
      injection heq with e1 e2
      subst e1 e2
      split at h
      · rename_i pk ys _ hys
        obtain ⟨hk⟩ := pk
        subst hk
        obtain rfl := Option.some.inj h
        simp only [Rel] at h2
        rw [h2, cellsK_rel hys h3]; rfl
      · cases h
    · cases h
theorem aggA_rel {x : AV} {u : Value} {cs : List AV} (h : aggA x = some cs) (hr : Rel E σ w β x u) : ∃ vs, u = .agg (List.toArray vs) ∧ RelL E σ w β cs vs := by
  unfold aggA at h
  split at h
  · obtain rfl := Option.some.inj h
    simpa [Rel] using hr
  · rename_i vs
    obtain rfl := Option.some.inj h
    simp only [Rel] at hr
    exact ⟨vs.toList, by simpa using hr, relL_vals _⟩
  · cases h
theorem indexV_sound {v : Value} (hC : Conc E σ τ β ⟨tm, H⟩ a w) (h : indexV P o (aeval tm) = some (true, v)) : OpOut P E σ β tm a w o H (.val v) := by
  unfold indexV at h
  split at h
  case h_2 => cases h
  rename_i t x i ho
  have hx := aeval_rel hC x
  have hi := aeval_rel hC i
  split at h
  · rename_i kk n hu hin
    have hi : a.eval i = .int kk n := by
      have : Rel E σ w β (.val (.int kk n)) (a.eval i) := hin ▸ hi
      simpa only [Rel] using this
    split at h
    · rename_i s hxs
      have hx : a.eval x = .string s := by
        have : Rel E σ w β (.val (.string s)) (a.eval x) := hxs ▸ hx
        simpa only [Rel] using this
      simp only [Option.some.injEq, Prod.mk.injEq, Bool.and_eq_true, decide_eq_true_eq] at h
      obtain ⟨⟨h0, h1⟩, rfl⟩ := h
      have hlt : n.toNat < s.size := by omega
      refine OpOut.same hC (v := .int .u8 ((s.get! n.toNat).toNat : Int)) ?_ (by simp [Rel])
      have hg : s[n.toNat]? = some (s.get! n.toNat) := by
        rw [getElem?_pos s n.toNat hlt]
        congr 1
        show s.data[n.toNat] = s.data[n.toNat]!
        rw [getElem!_pos]
      simp [execOp, ho, Instr.index, hx, hi, asIntOf, run_underlying hu, h0, hg]
    · cases h
  · rename_i m e kk n hu hin
    have hi : a.eval i = .int kk n := by
      have : Rel E σ w β (.val (.int kk n)) (a.eval i) := hin ▸ hi
      simpa only [Rel] using this
    split at h
    · rename_i k cs he hcs hsz
      split at h
      · rename_i xs hxs
        simp only [Option.some.injEq, Prod.mk.injEq, Bool.and_eq_true, decide_eq_true_eq] at h
        obtain ⟨⟨h0, h1, h2⟩, rfl⟩ := h
        obtain ⟨vs, e1, e2⟩ := aggA_rel hcs hx
        have hvs := cellsK_rel hxs e2
        obtain ⟨ti, hti, hb⟩ := Option.map_eq_some_iff.1 hsz
        have hb := Nat.eq_of_beq_eq_true hb
        refine OpOut.same hC (v := .int k (xs.getD n.toNat 0)) ?_ (by simp [Rel])
        have hg : vs[n.toNat]? = some (.int k (xs.getD n.toNat 0)) := by
          rw [hvs, List.getElem?_map, List.getD_eq_getElem?_getD, List.getElem?_eq_getElem (by omega)]; rfl
        have hag : (isAgg e).run P w = .ok false w := by simp [isAgg, run_underlying he]
        simp [execOp, ho, Instr.index, e1, hi, asIntOf, run_underlying hu, h0, h1, sizeOf, typeInfo, hti, hb, part, hag, hg]
      · cases h
    · cases h
  · cases h
end
end Go.Am
