/- The abstract machine, part 37: what is encoded is decoded: a law's arguments, arrays among them. No statement of its own. -/
import Derived.Test.YtijpigojhildgaaAmE
namespace Go.Am
open Go.Vk Go.RowKit
set_option linter.unusedVariables false
set_option linter.unusedSimpArgs false
theorem tyEq_self : ∀ T : Ty, tyEq T T = some ⟨rfl⟩
  | .int k => by simp [tyEq, kindEq]
  | .bool => rfl
  | .str => rfl
  | .slice T => by simp [tyEq, tyEq_self T]
  | .pair a b => by simp [tyEq, tyEq_self a, tyEq_self b]
  | .arr k n => by simp [tyEq, kindEq, natEq]
theorem decInts_enc {k : IntKind} : ∀ (n j : Nat) {xs : List Int} (l : List AV), xs.length = j + n → decInts k n (arrC k xs j n ++ l) = some (xs.drop j, l)
  | 0, j, xs, l, h => by simp [decInts, arrC, List.drop_of_length_le (show xs.length ≤ j by omega)]
  | n + 1, j, xs, l, h => by
    have hj : j < xs.length := by omega
    simp only [arrC, List.cons_append, decInts]
    rw [decInts_enc n (j + 1) l (by omega)]
    simp only [kindEq, dite_true]
    rw [List.drop_eq_getElem_cons hj]
    simp [hj]
theorem dec_enc {σ : Gh} {w : World} : ∀ (T : Ty) {x : T.Den} {cs : List Value} (l : List AV), repTy T σ w x cs → dec T (enc T x ++ l) = some (x, l)
  | .int k, x, cs, l, h => by simp [dec, enc, kindEq]
  | .bool, x, cs, l, h => rfl
  | .str, x, cs, l, h => rfl
  | .slice T, x, cs, l, h => by simp [dec, enc, decSl, tyEq_self, castL]
  | .pair a b, x, cs, l, h => by
    obtain ⟨c1, c2, _, h1, h2⟩ := h
    simp only [enc, dec, List.append_assoc, dec_enc a _ h1, dec_enc b _ h2]
  | .arr k n, x, cs, l, h => by
    simp only [dec, enc]
    rw [decInts_enc n 0 l (by have := h.2; omega), List.drop_zero]
variable [Dr]
omit [Dr] in
theorem decB_enc {σ : Gh} {w : World} {H : List AB} : ∀ (T : Ty) {x : T.Den} {cs : List Value} (l : List AV), repTy T σ w x cs → decB H T (enc T x ++ l) = some (x, l)
  | .int k, x, cs, l, h => dec_enc (.int k) l h
  | .bool, x, cs, l, h => rfl
  | .str, x, cs, l, h => rfl
  | .slice T, x, cs, l, h => by simp [decB, enc, decBS, tyEq_self, castL]
  | .pair a b, x, cs, l, h => by
    obtain ⟨c1, c2, _, h1, h2⟩ := h
    simp only [enc, decB, List.append_assoc, decB_enc a _ h1, decB_enc b _ h2]
  | .arr k n, x, cs, l, h => dec_enc (.arr k n) l h
theorem decBV_enc {σ : Gh} {w : World} {H : List AB} {ag : Bool} {T : Ty} {x : T.Den} {cs : List Value} (h : repTy T σ w x cs) (ha : ag = false → cs.length = 1) : decBV H ag T (encV ag T x) = some x := by
  have h0 := decB_enc (H := H) T [] h
  rw [List.append_nil] at h0
  cases ag with
  | true => simp only [decBV, encV, h0, whole]
  | false =>
    have hl := RelL.length (enc_rel (E := E0) (β := []) T h)
    rw [ha rfl] at hl
    obtain ⟨y, hy⟩ := List.length_eq_one_iff.1 hl.symm
    rw [hy] at h0
    simp only [decBV, encV, hy, List.headD_cons, h0, whole]
end Go.Am
