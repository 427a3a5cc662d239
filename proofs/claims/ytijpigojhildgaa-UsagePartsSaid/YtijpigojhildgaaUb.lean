/- Plain laws of the sheet of usage: many lines, one by one. No statement of its own. -/
import Derived.Test.YtijpigojhildgaaUa
namespace Go.Proofs.Ytijpigojhildgaa.Pure
open Go.Vk Go.Am Go.Sort Go.Proofs Go.Proofs.Ytijpigojhildgaa.Y
set_option linter.unusedVariables false
set_option linter.unusedSimpArgs false
theorem eq6 (q k : K6.Den) : eqT K6 q k = true ↔ q = k := eqT_iff (T := K6) rfl
theorem eq6_ne {q k : K6.Den} (h : q ≠ k) : eqT K6 q k = false := by
  cases e : eqT K6 q k with
  | false => rfl
  | true => exact absurd ((eq6 q k).1 e) h
theorem mlen_set : ∀ (xs : Sh) (k : K6.Den) (v : Int), mlen K6 (.int .i64) (mset K6 (.int .i64) xs k v) = mlen K6 (.int .i64) xs + (bif (mget K6 (.int .i64) xs k).isSome then 0 else 1)
  | [], k, v => rfl
  | none :: l, k, v => by
    simp only [mset, mlen, mget]
    exact mlen_set l k v
  | some (k', v') :: l, k, v => by
    simp only [mset, mget]
    cases eqT K6 k k' with
    | true => rfl
    | false =>
      simp only [cond_false, mlen]
      rw [mlen_set l k v]
      omega
theorem set_get (xs : Sh) (k : K6.Den) (v : Int) (q : K6.Den) : mget K6 (.int .i64) (mset K6 (.int .i64) xs k v) q = bif eqT K6 q k then some v else mget K6 (.int .i64) xs q := Go.Pg.get_set rfl xs k v q
/-- the i-th row's key -/
def kyi (P : Int) (i : Nat) : K6.Den := ky 0 (1 + ((i / 6 % 32 : Nat) : Int)) (1 + ((i / 192 % 8 : Nat) : Int)) ((i % 6 : Nat) : Int) (P + ((i / 1536 : Nat) : Int))
def vi (i : Nat) : Int := 1 + ((i % 7 : Nat) : Int)
def mk (P : Int) : Nat → Sh
  | 0 => []
  | i + 1 => mset K6 (.int .i64) (mk P i) (kyi P i) (vi i)
theorem kyi_inj {P : Int} {i j : Nat} (hi : i < 4096) (hj : j < 4096) (h : kyi P i = kyi P j) : i = j := by
  have h1 : 1 + ((i / 6 % 32 : Nat) : Int) = 1 + ((j / 6 % 32 : Nat) : Int) := congrArg (fun q : R6 => q.2.1) h
  have h2 : 1 + ((i / 192 % 8 : Nat) : Int) = 1 + ((j / 192 % 8 : Nat) : Int) := congrArg (fun q : R6 => q.2.2.1) h
  have h3 : ((i % 6 : Nat) : Int) = ((j % 6 : Nat) : Int) := congrArg (fun q : R6 => q.2.2.2.1) h
  have h4 : P + ((i / 1536 : Nat) : Int) = P + ((j / 1536 : Nat) : Int) := congrArg (fun q : R6 => q.2.2.2.2.1) h
  omega
theorem mk_none {P : Int} : ∀ (i : Nat) (q : K6.Den), (∀ j, j < i → q ≠ kyi P j) → mget K6 (.int .i64) (mk P i) q = none
  | 0, q, _ => rfl
  | i + 1, q, h => by
    rw [mk, set_get, eq6_ne (h i (by omega)), cond_false]
    exact mk_none i q fun j hj => h j (by omega)
theorem mk_some {P : Int} : ∀ (i : Nat), i ≤ 4096 → ∀ j, j < i → mget K6 (.int .i64) (mk P i) (kyi P j) = some (vi j)
  | 0, _, j, hj => by omega
  | i + 1, hi, j, hj => by
    rw [mk, set_get]
    by_cases e : j = i
    · subst e
      rw [(eq6 _ _).2 rfl, cond_true]
    · rw [eq6_ne (fun h => e (kyi_inj (by omega) (by omega) h)), cond_false]
      exact mk_some i (by omega) j (by omega)
theorem mk_new {P : Int} (i : Nat) (hi : i < 4096) : mget K6 (.int .i64) (mk P i) (kyi P i) = none :=
  mk_none i _ fun j hj h => by have := kyi_inj hi (by omega) h; omega
theorem mk_len {P : Int} : ∀ (i : Nat), i ≤ 4096 → mlen K6 (.int .i64) (mk P i) = i
  | 0, _ => rfl
  | i + 1, hi => by
    rw [mk, mlen_set, mk_new i (by omega), mk_len i (by omega)]
    rfl
theorem kyi_place {P : Int} (h0 : 0 ≤ P) (h1 : P ≤ 999) {i : Nat} (hi : i < 4096) : Place 0 (1 + ((i / 6 % 32 : Nat) : Int)) (1 + ((i / 192 % 8 : Nat) : Int)) ((i % 6 : Nat) : Int) (P + ((i / 1536 : Nat) : Int)) :=
  ⟨by omega, by omega, by omega, by omega, by omega, by omega, by omega, by omega, by omega, by omega⟩
theorem add_next {P : Int} (h0 : 0 ≤ P) (h1 : P ≤ 999) {i : Nat} (hi : i < 4096) :
    usage_Sheet_Add.f (mk P i) 0 (1 + ((i / 6 % 32 : Nat) : Int)) (1 + ((i / 192 % 8 : Nat) : Int)) [(((i % 6 : Nat) : Int), (vi i, (P + ((i / 1536 : Nat) : Int))))] = some (mk P (i + 1), 0) := by
  have hn : mget K6 (.int .i64) (mk P i) (ky 0 (1 + ((i / 6 % 32 : Nat) : Int)) (1 + ((i / 192 % 8 : Nat) : Int)) ((i % 6 : Nat) : Int) (P + ((i / 1536 : Nat) : Int))) = none := mk_new i hi
  have hh : have_ (mk P i) (ky 0 (1 + ((i / 6 % 32 : Nat) : Int)) (1 + ((i / 192 % 8 : Nat) : Int)) ((i % 6 : Nat) : Int) (P + ((i / 1536 : Nat) : Int))) = 0 := by unfold have_; rw [hn]; rfl
  rw [add_gen (mk P i) (kyi_place h0 h1 hi) (by unfold vi; omega) (by rw [mk_len i (by omega)]; omega) (by rw [hh]; omega) (by rw [hh]; unfold vi; omega)]
  rw [hn, hh, mk_len i (by omega)]
  rw [show decide ((i : Int) + (bif (none : Option Int).isSome then 0 else 1) > 4096) = false from decide_eq_false (by simp; omega), cond_false, Int.zero_add]
  rfl
theorem price_in (a0 : Int) : 0 ≤ IntKind.i64.wrap (Int.tmod (IntKind.u64.wrap a0) 1000) ∧ IntKind.i64.wrap (Int.tmod (IntKind.u64.wrap a0) 1000) ≤ 999 := by
  have h0 : 0 ≤ IntKind.u64.wrap a0 := wrap_u64_nonneg a0
  rw [Int.tmod_eq_emod_of_nonneg h0]
  have h1 := Int.emod_nonneg (IntKind.u64.wrap a0) (show (1000 : Int) ≠ 0 by decide)
  have h2 := Int.emod_lt_of_pos (IntKind.u64.wrap a0) (show (0 : Int) < 1000 by decide)
  rw [Go.Pg.wr _ (by omega) (by omega)]
  omega
theorem arg_b (i : Nat) (hi : i < 4096) : IntKind.i64.wrap (1 + (Int.tmod (IntKind.i64.wrap (Int.tdiv (i : Int) 6)) 32)) = 1 + ((i / 6 % 32 : Nat) : Int) := by
  rw [show Int.tdiv (i : Int) 6 = ((i / 6 : Nat) : Int) from rfl, Go.Pg.wrN _ (by omega), show Int.tmod ((i / 6 : Nat) : Int) 32 = ((i / 6 % 32 : Nat) : Int) from rfl]
  exact Go.Pg.wr _ (by omega) (by omega)
theorem arg_c (i : Nat) (hi : i < 4096) : IntKind.i64.wrap (1 + (Int.tmod (IntKind.i64.wrap (Int.tdiv (i : Int) 192)) 8)) = 1 + ((i / 192 % 8 : Nat) : Int) := by
  rw [show Int.tdiv (i : Int) 192 = ((i / 192 : Nat) : Int) from rfl, Go.Pg.wrN _ (by omega), show Int.tmod ((i / 192 : Nat) : Int) 8 = ((i / 192 % 8 : Nat) : Int) from rfl]
  exact Go.Pg.wr _ (by omega) (by omega)
theorem arg_t (i : Nat) : Int.tmod (i : Int) 6 = ((i % 6 : Nat) : Int) := rfl
theorem arg_n (i : Nat) : IntKind.i64.wrap (1 + Int.tmod (i : Int) 7) = vi i := by
  rw [show Int.tmod (i : Int) 7 = ((i % 7 : Nat) : Int) from rfl]
  exact Go.Pg.wr _ (by omega) (by omega)
theorem arg_p (P : Int) (h0 : 0 ≤ P) (h1 : P ≤ 999) (i : Nat) (hi : i < 4096) : IntKind.i64.wrap (P + IntKind.i64.wrap (Int.tdiv (i : Int) 1536)) = P + ((i / 1536 : Nat) : Int) := by
  rw [show Int.tdiv (i : Int) 1536 = ((i / 1536 : Nat) : Int) from rfl, Go.Pg.wrN _ (by omega)]
  exact Go.Pg.wr _ (by omega) (by omega)
theorem many_loop (a0 : Int) : loopO (purserlaw20_UsageMany.l2 a0) (0, (), ([] : Sh)) = some (.inr ((), mk (IntKind.i64.wrap (Int.tmod (IntKind.u64.wrap a0) 1000)) 4096)) := by
  obtain ⟨h0, h1⟩ := price_in a0
  refine Go.Pg.loop_up (fun i => ((i : Int), (), mk (IntKind.i64.wrap (Int.tmod (IntKind.u64.wrap a0) 1000)) i)) 4096 rfl ?_ ?_
  rotate_left
  · generalize hM : mk (IntKind.i64.wrap (Int.tmod (IntKind.u64.wrap a0) 1000)) = F
    generalize F 4096 = M
    rfl
  intro i hi
  unfold purserlaw20_UsageMany.l2
  simp only
  rw [show decide ((i : Int) < 4096) = true by simp; omega, cond_true, arg_b i hi, arg_c i hi, arg_t, arg_n, arg_p _ h0 h1 i hi, add_next h0 h1 hi]
  simp only [Option.bind_some]
  rw [Go.Pg.wrS i (by omega)]
  rfl
end Go.Proofs.Ytijpigojhildgaa.Pure
