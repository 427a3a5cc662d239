/- The law JournalFull, in plain Lean. No statement of its own. -/
import Derived.Test.YtniohchnpfpffaaJb
namespace Go.Proofs.Ytniohchnpfpffaa.Pure
open Go.Vk Go.Am Go.Pg Go.Sort Go.Proofs.Ytniohchnpfpffaa.Y
set_option linter.unusedVariables false
set_option linter.unusedSimpArgs false

theorem modN (a : Int) (k : Nat) (hk : 0 < k) (hk2 : k ≤ 1000) : ∃ n : Nat, n < k ∧ IntKind.i64.wrap (Int.tmod (IntKind.u64.wrap a) (k : Int)) = (n : Int) := by
  have h0 : 0 ≤ IntKind.u64.wrap a ∧ IntKind.u64.wrap a < 18446744073709551616 := by
    rw [IntKind.wrap_u64]; omega
  rw [Int.tmod_eq_emod_of_nonneg h0.1]
  have h1 := Int.emod_nonneg (IntKind.u64.wrap a) (show (k : Int) ≠ 0 by omega)
  have h2 := Int.emod_lt_of_pos (IntKind.u64.wrap a) (show (0 : Int) < (k : Int) by omega)
  refine ⟨(IntKind.u64.wrap a % (k : Int)).toNat, by omega, ?_⟩
  rw [wr _ (by omega) (by omega)]
  omega
/-- what is there behind so many closes -/
def cls (i : Nat) : Jn := ([], (((min i 31 : Nat) : Int), ([], List.replicate (min i 31 + 1) [])))
def cst (i : Nat) : Int × Unit × List ((Int × List Leg) × Int) × Int × Bk × List Bk := ((i : Int), (), [], ((min i 31 : Nat) : Int), [], List.replicate (min i 31 + 1) [])
theorem close_step (a0 : Int) (n i : Nat) (hn : n < 40) (hi : i < n) (hw : IntKind.i64.wrap (Int.tmod (IntKind.u64.wrap a0) 40) = (n : Int)) : purserlaw08_JournalFull.l2 a0 (cst i) = some (.inl (cst (i + 1))) := by
  unfold purserlaw08_JournalFull.l2 cst
  simp only
  rw [hw, ilt hi, cond_true, wrS i (by omega)]
  have hj : (([] : List ((Int × List Leg) × Int)), (((min i 31 : Nat) : Int), (([] : Bk), List.replicate (min i 31 + 1) ([] : Bk)))) = cls i := rfl
  rw [hj]
  by_cases h31 : i < 31
  · have hm : min i 31 = i := by omega
    have hm' : min (i + 1) 31 = i + 1 := by omega
    have hc := close_ok (cls i) (by show (0 : Int) ≤ ((min i 31 : Nat) : Int); omega) (by show ((min i 31 : Nat) : Int) < 31; omega) (by show (List.replicate (min i 31 + 1) ([] : Bk)).length ≤ 1000; rw [List.length_replicate]; omega)
    rw [hc, Option.bind_some]
    simp only [cls, hm, hm']
    have e1 : decide ((i : Int) < 31) = true := by simp; omega
    have e2 : decide ((i : Int) ≥ 31) = false := by simp; omega
    have e3 : ((i : Int) + 1 != ((i + 1 : Nat) : Int)) = false := by simp
    rw [e1, e2, e3]
    have e4 : List.replicate (i + 1 + 1) ([] : Bk) = List.replicate (i + 1) [] ++ [[]] := by rw [List.replicate_succ']
    rw [e4]
    rfl
  · have hm : min i 31 = 31 := by omega
    have hm' : min (i + 1) 31 = 31 := by omega
    have hc := close_full (cls i) (by show ((min i 31 : Nat) : Int) = 31; omega)
    rw [hc, Option.bind_some]
    simp only [cls, hm, hm']
    have e1 : decide ((i : Int) < 31) = false := by simp; omega
    have e2 : decide ((i : Int) ≥ 31) = true := by simp; omega
    rw [e1, e2]
    rfl
theorem close_loop (a0 : Int) (n : Nat) (hn : n < 40) (hw : IntKind.i64.wrap (Int.tmod (IntKind.u64.wrap a0) 40) = (n : Int)) : loopO (purserlaw08_JournalFull.l2 a0) (0, (), [], 0, [], [[]]) = some (.inr ((), [], ((min n 31 : Nat) : Int), [], List.replicate (min n 31 + 1) [])) := by
  refine loop_up cst n rfl (fun i hi => close_step a0 n i hn hi hw) ?_
  unfold purserlaw08_JournalFull.l2 cst
  simp only
  rw [hw, ige]
  rfl
def pst (j : Jn) (i : Nat) : Int × Unit × List ((Int × List Leg) × Int) × Int × Bk × List Bk := ((i : Int), (), (tops j (min i 128)).1, (tops j (min i 128)).2.1, (tops j (min i 128)).2.2.1, (tops j (min i 128)).2.2.2)
theorem post_law_step (a1 : Int) {p m i : Nat} {j : Jn} (h : Top p 0 j) (hm : m < 1000) (hi : i < m) (hw : IntKind.i64.wrap (122 + IntKind.i64.wrap (Int.tmod (IntKind.u64.wrap a1) 10)) = (m : Int)) : purserlaw08_JournalFull.l12 a1 ((1, legs2), 0) (pst j i) = some (.inl (pst j (i + 1))) := by
  have ht := top_all h (min i 128) (by omega)
  have hp := post_top ht (by omega)
  unfold purserlaw08_JournalFull.l12 pst
  simp only
  rw [hw, ilt hi, cond_true, wrS i (by omega)]
  have hj : ((tops j (min i 128)).1, ((tops j (min i 128)).2.1, ((tops j (min i 128)).2.2.1, (tops j (min i 128)).2.2.2))) = tops j (min i 128) := rfl
  rw [hj, hp, Option.bind_some]
  by_cases h128 : i < 128
  · have hmi : min i 128 = i := by omega
    have hmi' : min (i + 1) 128 = i + 1 := by omega
    have e1 : decide ((i : Int) < 128) = true := by simp; omega
    have e2 : decide ((i : Int) ≥ 128) = false := by simp; omega
    have e3 : ((i : Int) != (i : Int)) = false := by simp
    rw [hmi, hmi', if_neg (by omega), e1, e2]
    simp only [e3]
    rfl
  · have hmi : min i 128 = 128 := by omega
    have hmi' : min (i + 1) 128 = 128 := by omega
    have e1 : decide ((i : Int) < 128) = false := by simp; omega
    have e2 : decide ((i : Int) ≥ 128) = true := by simp; omega
    rw [hmi, hmi', if_pos rfl, e1, e2]
    rfl
theorem post_law_loop (a1 : Int) {p m : Nat} {j : Jn} (h : Top p 0 j) (hm : m < 1000) (hw : IntKind.i64.wrap (122 + IntKind.i64.wrap (Int.tmod (IntKind.u64.wrap a1) 10)) = (m : Int)) :
    loopO (purserlaw08_JournalFull.l12 a1 ((1, legs2), 0)) (0, (), j.1, j.2.1, j.2.2.1, j.2.2.2) = some (.inr ((), (tops j (min m 128)).1, (tops j (min m 128)).2.1, (tops j (min m 128)).2.2.1, (tops j (min m 128)).2.2.2)) := by
  refine loop_up (pst j) m rfl (fun i hi => post_law_step a1 h hm hi hw) ?_
  unfold purserlaw08_JournalFull.l12 pst
  simp only
  rw [hw, ige]
  rfl
theorem JournalFull (a0 a1 : Int) (w0 : wfTy (.int .i64) a0) (w1 : wfTy (.int .i64) a1) : purserlaw08_JournalFull.f a0 a1 = some true := by
  obtain ⟨n, hn, hw⟩ := modN a0 40 (by decide) (by decide)
  obtain ⟨k, hk, hw2⟩ := modN a1 10 (by decide) (by decide)
  have hw : IntKind.i64.wrap (Int.tmod (IntKind.u64.wrap a0) 40) = (n : Int) := hw
  have hw2 : IntKind.i64.wrap (Int.tmod (IntKind.u64.wrap a1) 10) = (k : Int) := hw2
  have hw3 : IntKind.i64.wrap (122 + IntKind.i64.wrap (Int.tmod (IntKind.u64.wrap a1) 10)) = ((122 + k : Nat) : Int) := by
    rw [hw2, wr _ (by omega) (by omega)]; omega
  have hT : Top (min n 31) 0 (cls n) := ⟨rfl, rfl, by simp [cls], rfl, rfl, rfl⟩
  have hl := close_loop a0 n hn hw
  have hp := post_law_loop a1 hT (m := 122 + k) (by omega) hw3
  have hA := top_all hT (min (122 + k) 128) (by omega)
  unfold purserlaw08_JournalFull.f
  rw [new_eq, Option.bind_some]
  simp only
  rw [hl, Option.bind_some]
  simp only
  rw [make_2, Option.bind_some, journals_eq, Option.bind_some]
  simp only [Bool.not_true, Bool.not_false, cond_true, bne_self_eq_false]
  rw [show (([] : List ((Int × List ((Int × Int × Int) × Int)) × Int)), (((min n 31 : Nat) : Int), (([] : Bk), List.replicate (min n 31 + 1) ([] : Bk)))) = cls n from rfl, period_eq, Option.bind_some, hw]
  have e1 : ((cls n).2.1 != (if (31 : Int) < (n : Int) then 31 else (n : Int))) = false := by
    show (((min n 31 : Nat) : Int) != _) = false
    by_cases h : (31 : Int) < (n : Int)
    · rw [if_pos h]; simp; omega
    · rw [if_neg h]; simp; omega
  simp only [e1, Option.bind_some, cond_false]
  rw [hp, Option.bind_some]
  simp only
  rw [show ((tops (cls n) (min (122 + k) 128)).1, ((tops (cls n) (min (122 + k) 128)).2.1, ((tops (cls n) (min (122 + k) 128)).2.2.1, (tops (cls n) (min (122 + k) 128)).2.2.2))) = tops (cls n) (min (122 + k) 128) from rfl, balance_eq, Option.bind_some, hw3]
  simp only
  rw [hA.a0]
  have e2 : (if (128 : Int) < ((122 + k : Nat) : Int) then (128 : Int) else ((122 + k : Nat) : Int)) = ((min (122 + k) 128 : Nat) : Int) := by
    by_cases h : (128 : Int) < ((122 + k : Nat) : Int)
    · rw [if_pos h]; omega
    · rw [if_neg h]; omega
  rw [e2]
  have e3 : (((min (122 + k) 128 : Nat) : Int) * 9007199254740992 == IntKind.i64.wrap (((min (122 + k) 128 : Nat) : Int) * 2 ^ 53)) = true := by
    rw [show (2 : Int) ^ 53 = 9007199254740992 from by decide, wr _ (by omega) (by omega)]; simp
  rw [e3, cond_true, show ((tops (cls n) (min (122 + k) 128)).1, ((tops (cls n) (min (122 + k) 128)).2.1, ((tops (cls n) (min (122 + k) 128)).2.2.1, (tops (cls n) (min (122 + k) 128)).2.2.2))) = tops (cls n) (min (122 + k) 128) from rfl, len_eq, Option.bind_some, hA.list]
  simp
end Go.Proofs.Ytniohchnpfpffaa.Pure
