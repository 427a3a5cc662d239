/- Plain laws of the sheet of usage: one line is added. No statement of its own. -/
import Derived.Test.YtijpigojhildgaaMa
namespace Go.Proofs.Ytijpigojhildgaa.Pure
open Go.Vk Go.Am Go.Sort Go.Proofs Go.Proofs.Ytijpigojhildgaa.Y
set_option linter.unusedVariables false
set_option linter.unusedSimpArgs false
abbrev K6 : Ty := .pair (.int .i64) (.pair (.int .i64) (.pair (.int .i64) (.pair (.int .i64) (.pair (.int .i64) (.int .i64)))))
abbrev R6 := Int × Int × Int × Int × Int × Int
abbrev Sh := Mp K6 (.int .i64)
theorem merge_one (t n p : Int) (hn : i64 n) : tier_Merge.f [(t, (n, p))] [] = some ([(t, (n, p))], true) := by
  obtain ⟨o, ok, h1, h2⟩ := own_merge [(t, (n, p))] [] (by simp) (by simpa using hn)
  have hg : gs [(t, (n, p))] (kx (t, (n, p))) = n := by simp [gs, grp, bl, sumL]
  have h3 : IsM [(t, (n, p))] [(t, (n, p))] true := by
    refine ⟨fun _ => ⟨by simp, fun x => ?_, ?_⟩, fun h => by cases h⟩
    · simp only [List.mem_singleton, exists_eq_left]
      constructor
      · rintro rfl; exact ⟨rfl, hg.symm⟩
      · rintro ⟨h, k⟩
        rw [← h, hg] at k
        obtain ⟨x1, x2, x3⟩ := x
        simp only [kx, Prod.mk.injEq, true_and] at h
        simp only at k
        obtain ⟨rfl, rfl⟩ := h
        rw [k]
    · simp only [List.mem_singleton, forall_eq]
      rw [hg]; exact hn
  obtain ⟨rfl, rfl⟩ := h2.uniq (List.Perm.refl _) (by simpa using h3)
  exact h1
/-- what a row may be -/
structure Place (a b c t p : Int) : Prop where
  a0 : 0 ≤ a
  a1 : a ≤ 31
  b0 : 1 ≤ b
  b1 : b ≤ 32
  c0 : 1 ≤ c
  c1 : c ≤ 8
  t0 : 0 ≤ t
  t1 : t ≤ 5
  p0 : 0 ≤ p
  p1 : p ≤ 1048576
theorem place_ok {a b c t p : Int} (n : Int) (h : Place a b c t p) : usage_Row_place.f (a, (b, (c, (t, (p, n))))) = some true := by
  obtain ⟨a0, a1, b0, b1, c0, c1, t0, t1, p0, p1⟩ := h
  simp [usage_Row_place.f, usage_within.f, a0, a1, b0, b1, c0, c1, t0, t1, p0, p1]
theorem changes_one (xs : Sh) {a b c t p n : Int} (h : Place a b c t p) (hn : 1 ≤ n) (hn2 : n ≤ 1099511627776) : usage_Sheet_changes.f xs a b c [(t, (n, p))] = some (xs, ([(a, (b, (c, (t, (p, n)))))], 0)) := by
  have h0 : Place a b c 0 0 := ⟨h.a0, h.a1, h.b0, h.b1, h.c0, h.c1, by omega, by omega, by omega, by omega⟩
  unfold usage_Sheet_changes.f
  rw [place_ok 0 h0, Option.bind_some]
  rw [show (!true) = false from rfl, cond_false]
  rw [merge_one t n p ⟨by omega, by omega⟩, Option.bind_some]
  rw [show (!(([(t, (n, p))] : List (Int × Int × Int)), true).2) = false from rfl, cond_false]
  rw [Go.Pg.loop_up (f := usage_Sheet_changes.l3 a b c ([(t, (n, p))], true)) (s0 := ([], 0)) (fun i => (if i = 0 then [] else [(a, (b, (c, (t, (p, n)))))], (i : Int))) 1 (b := .inr [(a, (b, (c, (t, (p, n)))))]) rfl ?_ ?_]
  · rfl
  · intro i hi
    obtain rfl : i = 0 := by omega
    have h00 : 0 ≤ n := by omega
    have hw : usage_within.f n 0 1099511627776 = some true := by simp [usage_within.f, hn2, h00]
    have hpos : 0 < n := by omega
    unfold usage_Sheet_changes.l3
    simp [place_ok n h, hw, hpos]
    rfl
  · unfold usage_Sheet_changes.l3
    simp
/-- a row's key -/
def ky (a b c t p : Int) : K6.Den := (a, (b, (c, (t, (p, 0)))))
/-- what a sheet has of a key -/
def have_ (xs : Sh) (k : K6.Den) : Int := (mget K6 (.int .i64) xs k).getD (0 : Int)
theorem add_gen (xs : Sh) {a b c t p n : Int} (h : Place a b c t p) (hn : 1 ≤ n) (hl : mlen K6 (.int .i64) xs ≤ 4096) (hv : 0 ≤ have_ xs (ky a b c t p)) (hs : have_ xs (ky a b c t p) + n ≤ 1099511627776) :
    usage_Sheet_Add.f xs a b c [(t, (n, p))] = bif decide ((mlen K6 (.int .i64) xs : Int) + (bif (mget K6 (.int .i64) xs (ky a b c t p)).isSome then 0 else 1) > 4096) then some (xs, 10) else some (mset K6 (.int .i64) xs (ky a b c t p) (have_ xs (ky a b c t p) + n), 0) := by
  have hw : IntKind.i64.wrap (have_ xs (ky a b c t p) + n) = have_ xs (ky a b c t p) + n := Go.Pg.wr _ (by omega) (by omega)
  have hm : ∀ d : Int, 0 ≤ d → d ≤ 1 → IntKind.i64.wrap ((mlen K6 (.int .i64) xs : Int) + d) = (mlen K6 (.int .i64) xs : Int) + d := fun d h1 h2 => Go.Pg.wr _ (by omega) (by omega)
  have hkey : ∀ z : Int, usage_Row_key.f (a, (b, (c, (t, (p, z))))) = some (ky a b c t p) := fun z => rfl
  have hg : decide (IntKind.i64.wrap (have_ xs (ky a b c t p) + n) > 1099511627776) = false := by rw [hw]; simpa using hs
  unfold usage_Sheet_Add.f
  rw [changes_one xs h hn (by omega), Option.bind_some]
  rw [show (((xs, ([(a, (b, (c, (t, (p, n)))))], (0 : Int))) : Sh × (List R6 × Int)).2.2 != 0) = false from rfl, cond_false]
  have hL : loopO (usage_Sheet_Add.l2 (xs, ([(a, (b, (c, (t, (p, n)))))], 0))) ((mlen K6 (.int .i64) xs : Int), false, 0) = some ((mlen K6 (.int .i64) xs : Int) + (bif (mget K6 (.int .i64) xs (ky a b c t p)).isSome then 0 else 1), false) := by
    refine Go.Pg.loop_up (fun i => (if i = 0 then (mlen K6 (.int .i64) xs : Int) else (mlen K6 (.int .i64) xs : Int) + (bif (mget K6 (.int .i64) xs (ky a b c t p)).isSome then 0 else 1), false, (i : Int))) 1 rfl ?_ rfl
    intro i hi
    obtain rfl : i = 0 := by omega
    show usage_Sheet_Add.l2 (xs, ([(a, (b, (c, (t, (p, n)))))], 0)) ((mlen K6 (.int .i64) xs : Int), false, 0) = _
    unfold usage_Sheet_Add.l2
    simp only [List.length_singleton, List.getD_cons_zero, Int.toNat_zero]
    rw [show decide ((0 : Int) < ((1 : Nat) : Int)) = true from rfl, show decide ((0 : Int) ≤ 0) = true from rfl]
    simp only [cond_true, Bool.and_self]
    rw [hkey, Option.bind_some]
    show ((bif (!((mget K6 (.int .i64) xs (ky a b c t p)).isSome)) then some (IntKind.i64.wrap ((mlen K6 (.int .i64) xs : Int) + 1)) else some (mlen K6 (.int .i64) xs : Int)) : Option Int).bind (fun e4 => ((bif !false then some (decide (IntKind.i64.wrap (have_ xs (ky a b c t p) + n) > 1099511627776)) else some true) : Option Bool).bind fun e5 => some (Sum.inl (e4, e5, IntKind.i64.wrap (0 + 1)))) = _
    rw [hg]
    cases hq : (mget K6 (.int .i64) xs (ky a b c t p)).isSome with
    | true => rfl
    | false =>
      simp only [Bool.not_false, cond_true, Option.bind_some]
      rw [hm 1 (by omega) (by omega)]
      rfl
  have hL7 : loopO (usage_Sheet_Add.l7 (xs, ([(a, (b, (c, (t, (p, n)))))], 0))) (0, xs) = some (mset K6 (.int .i64) xs (ky a b c t p) (have_ xs (ky a b c t p) + n)) := by
    refine Go.Pg.loop_up (fun i => ((i : Int), if i = 0 then xs else mset K6 (.int .i64) xs (ky a b c t p) (have_ xs (ky a b c t p) + n))) 1 rfl ?_ rfl
    intro i hi
    obtain rfl : i = 0 := by omega
    have hh : mhas K6 (.int .i64) (mset K6 (.int .i64) xs (ky a b c t p) (have_ xs (ky a b c t p))) (mpos K6 (.int .i64) xs (ky a b c t p)) = true := Go.Pg.has_set xs _ _ rfl
    have hp := Go.Pg.put_set xs (ky a b c t p) (have_ xs (ky a b c t p)) (have_ xs (ky a b c t p) + n) rfl
    show usage_Sheet_Add.l7 (xs, ([(a, (b, (c, (t, (p, n)))))], 0)) (0, xs) = _
    unfold usage_Sheet_Add.l7
    simp only [List.length_singleton, List.getD_cons_zero, Int.toNat_zero]
    rw [show decide ((0 : Int) < ((1 : Nat) : Int)) = true from rfl, show decide ((0 : Int) ≤ 0) = true from rfl]
    simp only [cond_true, Bool.and_self]
    rw [hkey, Option.bind_some]
    show (bif (decide (0 ≤ ((mpos K6 (.int .i64) xs (ky a b c t p) : Nat) : Int)) && mhas K6 (.int .i64) (mset K6 (.int .i64) xs (ky a b c t p) (have_ xs (ky a b c t p))) (((mpos K6 (.int .i64) xs (ky a b c t p) : Nat) : Int)).toNat) then some (Sum.inl (IntKind.i64.wrap (0 + 1), mput K6 (.int .i64) (mset K6 (.int .i64) xs (ky a b c t p) (have_ xs (ky a b c t p))) (((mpos K6 (.int .i64) xs (ky a b c t p) : Nat) : Int)).toNat (IntKind.i64.wrap (have_ xs (ky a b c t p) + n)))) else none) = _
    rw [Go.Pg.nn, Bool.true_and, Int.toNat_natCast, hh, cond_true, hw, hp]
    rfl
  show Option.bind (loopO (usage_Sheet_Add.l2 (xs, ([(a, (b, (c, (t, (p, n)))))], 0))) ((mlen K6 (.int .i64) xs : Int), false, 0)) _ = _
  rw [hL, Option.bind_some]
  simp only [cond_false]
  cases hc : decide ((mlen K6 (.int .i64) xs : Int) + (bif (mget K6 (.int .i64) xs (ky a b c t p)).isSome then 0 else 1) > 4096) with
  | true => rfl
  | false =>
    simp only [cond_false]
    rw [hL7]
    rfl
end Go.Proofs.Ytijpigojhildgaa.Pure
