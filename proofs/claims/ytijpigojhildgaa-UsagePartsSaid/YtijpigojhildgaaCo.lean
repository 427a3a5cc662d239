/- Plain laws of the sheet of usage: the map of rising rows. No statement of its own. -/
import Derived.Test.YtijpigojhildgaaCn
namespace Go.Proofs.Ytijpigojhildgaa.Pure
open Go.Vk Go.Am Go.Pg Go.Sort Go.Proofs Go.Proofs.Ytijpigojhildgaa.Y
set_option linter.unusedVariables false
set_option linter.unusedSimpArgs false
/-- a row's key, and its entry -/
def kq (q : RR) : K6.Den := ky q.1 q.2.1 q.2.2.1 q.2.2.2.1 q.2.2.2.2.1
def entQ (q : RR) : Option (K6.Den × Int) := some (kq q, q.2.2.2.2.2)
theorem lt6_kq {a b : RR} (h : lt6 a b) : kq a ≠ kq b := by
  intro e
  have e : ky a.1 a.2.1 a.2.2.1 a.2.2.2.1 a.2.2.2.2.1 = ky b.1 b.2.1 b.2.2.1 b.2.2.2.1 b.2.2.2.2.1 := e
  have e : (a.1, (a.2.1, (a.2.2.1, (a.2.2.2.1, (a.2.2.2.2.1, (0 : Int)))))) = (b.1, (b.2.1, (b.2.2.1, (b.2.2.2.1, (b.2.2.2.2.1, (0 : Int)))))) := e
  simp only [Prod.mk.injEq] at e
  obtain ⟨e1, e2, e3, e4, e5, _⟩ := e
  unfold lt6 at h
  omega
theorem mset_new : ∀ (L : List RR) (k : K6.Den) (v : Int), (∀ q ∈ L, kq q ≠ k) → mset K6 (.int .i64) (L.map entQ) k v = L.map entQ ++ [some (k, v)]
  | [], k, v, _ => rfl
  | q :: L, k, v, h => by
    have hk : eqT K6 k (kq q) = false := eq6_ne (fun e => h q (by simp) e.symm)
    show (bif eqT K6 k (kq q) then _ else _) = _
    rw [hk, cond_false, mset_new L k v (fun p hp => h p (by simp [hp]))]
    rfl
theorem put_all : ∀ (R L : List RR), (L ++ R).Pairwise lt6 → R.foldl putRow (L.map entQ) = (L ++ R).map entQ
  | [], L, _ => by simp
  | q :: R, L, h => by
    have hn : ∀ p ∈ L, kq p ≠ kq q := fun p hp => lt6_kq ((List.pairwise_append.1 h).2.2 p hp q (by simp))
    rw [List.foldl_cons]
    have e : putRow (L.map entQ) q = (L ++ [q]).map entQ := by
      show mset K6 (.int .i64) (L.map entQ) (kq q) q.2.2.2.2.2 = _
      rw [mset_new L _ _ hn, List.map_append]
      rfl
    rw [e, put_all R (L ++ [q]) (by simpa using h)]
    simp
end Go.Proofs.Ytijpigojhildgaa.Pure
