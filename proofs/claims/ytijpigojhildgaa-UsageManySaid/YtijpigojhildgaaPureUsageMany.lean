/- The plain law of UsageMany: what the law computes is true, whatever the input. -/
import Derived.Test.YtijpigojhildgaaUc
namespace Go.Proofs.Ytijpigojhildgaa.Pure
open Go.Vk Go.Am Go.Sort Go.Proofs Go.Proofs.Ytijpigojhildgaa.Y
set_option linter.unusedVariables false
set_option linter.unusedSimpArgs false
theorem index_in (a1 : Int) : ∃ k : Nat, k < 4096 ∧ IntKind.i64.wrap (Int.tmod (IntKind.u64.wrap a1) 4096) = (k : Int) := by
  have h0 : 0 ≤ IntKind.u64.wrap a1 := wrap_u64_nonneg a1
  rw [Int.tmod_eq_emod_of_nonneg h0]
  have h1 := Int.emod_nonneg (IntKind.u64.wrap a1) (show (4096 : Int) ≠ 0 by decide)
  have h2 := Int.emod_lt_of_pos (IntKind.u64.wrap a1) (show (0 : Int) < 4096 by decide)
  rw [Go.Pg.wr _ (by omega) (by omega)]
  exact ⟨(IntKind.u64.wrap a1 % 4096).toNat, by omega, by omega⟩
theorem UsageMany (a0 a1 : Int) (w0 : wfTy (.int .i64) a0) (w1 : wfTy (.int .i64) a1) : purserlaw20_UsageMany.f a0 a1 = some true := by
  obtain ⟨h0, h1⟩ := price_in a0
  obtain ⟨k, hk, hke⟩ := index_in a1
  unfold purserlaw20_UsageMany.f
  rw [uses_eq, Option.bind_some]
  rw [show (!true) = false from rfl, cond_false]
  rw [many_loop, Option.bind_some]
  simp only
  rw [hke]
  generalize hP : IntKind.i64.wrap (Int.tmod (IntKind.u64.wrap a0) 1000) = P at h0 h1
  have hlen : mlen K6 (.int .i64) (mk P 4096) = 4096 := mk_len 4096 (Nat.le_refl _)
  have hn : mget K6 (.int .i64) (mk P 4096) (ky 1 1 1 0 P) = none := mk_none 4096 _ fun j hj h => by
    have h1 : (1 : Int) = 0 := congrArg (fun q : R6 => q.1) h
    omega
  have hA : usage_Sheet_Add.f (mk P 4096) 1 1 1 [(0, (1, P))] = some (mk P 4096, 10) := by
    have hh : have_ (mk P 4096) (ky 1 1 1 0 P) = 0 := by unfold have_; rw [hn]; rfl
    rw [add_gen (mk P 4096) ⟨by omega, by omega, by omega, by omega, by omega, by omega, by omega, by omega, by omega, by omega⟩ (by omega) (by rw [hlen]; omega) (by rw [hh]; omega) (by rw [hh]; omega)]
    rw [hn, hlen]
    rfl
  rw [hA, Option.bind_some]
  simp only
  rw [arg_b k hk, arg_c k hk, arg_t, arg_p P h0 h1 k hk]
  have hs : mget K6 (.int .i64) (mk P 4096) (ky 0 (1 + ((k / 6 % 32 : Nat) : Int)) (1 + ((k / 192 % 8 : Nat) : Int)) ((k % 6 : Nat) : Int) (P + ((k / 1536 : Nat) : Int))) = some (vi k) := mk_some 4096 (Nat.le_refl _) k hk
  have hv : have_ (mk P 4096) (ky 0 (1 + ((k / 6 % 32 : Nat) : Int)) (1 + ((k / 192 % 8 : Nat) : Int)) ((k % 6 : Nat) : Int) (P + ((k / 1536 : Nat) : Int))) = vi k := by unfold have_; rw [hs]; rfl
  have hvi : 1 ≤ vi k ∧ vi k ≤ 7 := by unfold vi; omega
  rw [add_gen (mk P 4096) (kyi_place h0 h1 hk) (by omega) (by rw [hlen]; omega) (by rw [hv]; omega) (by rw [hv]; omega)]
  rw [hs, hv, hlen]
  rw [show decide (((4096 : Nat) : Int) + (bif (some (vi k) : Option Int).isSome then 0 else 1) > 4096) = false from rfl, cond_false, Option.bind_some]
  unfold usage_Sheet_Len.f
  simp only [Option.bind_some]
  rw [mlen_set, hs, hlen]
  rfl
end Go.Proofs.Ytijpigojhildgaa.Pure
