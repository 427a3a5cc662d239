/- Plain laws of the sheet of usage: the keys of rising rows, sorted. No statement of its own. -/
import Derived.Test.YtijpigojhildgaaCo
namespace Go.Proofs.Ytijpigojhildgaa.Pure
open Go.Vk Go.Am Go.Pg Go.Sort Go.Proofs Go.Proofs.Ytijpigojhildgaa.Y
set_option linter.unusedVariables false
set_option linter.unusedSimpArgs false
theorem keys_of (R : List RR) : (List.filterMap id (R.map entQ)).map (·.1) = R.map kq := by
  induction R with
  | nil => rfl
  | cons q R ih =>
    show kq q :: _ = _
    exact congrArg (kq q :: ·) ih
theorem sort_keys (R : List RR) (hs : R.Pairwise lt6) (hl : R.length < 4611686018427387904) (l : List R6) (hp : l.Perm (R.map kq)) : sortM (T := K6) usage_Row_order.f l = some (R.map kq) := by
  obtain ⟨ys, h1, h2, h3⟩ := sort6 l (by have := hp.length_eq; simp at this; omega)
  rw [h1]
  refine congrArg some (List.Perm.eq_of_pairwise (le := fun a b : R6 => ¬ lt6 b a) (fun a b ha hb h k => ?_) h3 ?_ (h2.trans hp))
  · have hb' : b ∈ R.map kq := hb
    have ha' : a ∈ R.map kq := (h2.trans hp).mem_iff.1 ha
    obtain ⟨p, _, rfl⟩ := List.mem_map.1 ha'
    obtain ⟨q, _, rfl⟩ := List.mem_map.1 hb'
    show (p.1, (p.2.1, (p.2.2.1, (p.2.2.2.1, (p.2.2.2.2.1, (0 : Int)))))) = (q.1, (q.2.1, (q.2.2.1, (q.2.2.2.1, (q.2.2.2.2.1, (0 : Int))))))
    have h : ¬ lt6 q p := h
    have k : ¬ lt6 p q := k
    unfold lt6 at h k
    simp only [Prod.mk.injEq, and_true]
    omega
  · rw [List.pairwise_map]
    refine hs.imp fun {a b} hab hba => ?_
    have hba : lt6 b a := hba
    unfold lt6 at hab hba
    omega
end Go.Proofs.Ytijpigojhildgaa.Pure
