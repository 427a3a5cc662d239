/- Plain laws of the sheet of usage: it is written. No statement of its own. -/
import Derived.Test.YtijpigojhildgaaCg
namespace Go.Proofs.Ytijpigojhildgaa.Pure
open Go.Vk Go.Am Go.Pg Go.Sort Go.Proofs Go.Proofs.Ytijpigojhildgaa.Y
set_option linter.unusedVariables false
set_option linter.unusedSimpArgs false
abbrev KR : Ty := .pair (.int .i64) (.pair (.int .i64) (.pair (.int .i64) (.pair (.int .i64) (.pair (.int .i64) (.int .i64)))))
abbrev RR := Int × Int × Int × Int × Int × Int
/-- a row's numbers -/
def nums (r : RR) : List Int := [r.1, r.2.1, r.2.2.1, r.2.2.2.1, r.2.2.2.2.1, r.2.2.2.2.2]
/-- numbers as bytes -/
def numsB (l : List Int) : List Int := l.flatMap fun x => gr x.toNat
def rowB (r : RR) : List Int := numsB (nums r)
def sheetB (R : List RR) : List Int := gr R.length ++ R.flatMap rowB
/-- numbers that a writer takes -/
def okN (x : Int) : Prop := 0 ≤ x ∧ x < 9223372036854775808
theorem gr_short {x : Int} (h : okN x) : (gr x.toNat).length ≤ 10 := gr_len 9 x.toNat (Nat.lt_trans (show x.toNat < 2 ^ 64 by unfold okN at h; omega) p64)
theorem numsB_len : ∀ {l : List Int}, (∀ x ∈ l, okN x) → (numsB l).length ≤ 10 * l.length
  | [], _ => by simp [numsB]
  | x :: l, h => by
    have h1 := gr_short (h x (by simp))
    have h2 := numsB_len (l := l) (fun y hy => h y (by simp [hy]))
    unfold numsB at *
    simp only [List.flatMap_cons, List.length_append, List.length_cons]
    omega
theorem numsB_snoc (l : List Int) (i : Nat) (h : i < l.length) : numsB (l.take (i + 1)) = numsB (l.take i) ++ gr l[i].toNat := by
  unfold numsB
  rw [Go.Pg.take_succ l i h, List.flatMap_append]
  simp
theorem wuintI (x : Int) (b : List Int) (h : okN x) (hb : b.length + 10 ≤ 1099511627776) : codec_Writer_Uint.f (b, false) x = some ((b ++ gr x.toNat, false), ()) := by
  obtain ⟨h0, h1⟩ := h
  have := wuint_eq x.toNat b false (by omega) hb
  rwa [Int.toNat_of_nonneg h0] at this
theorem row_loop (xs : Mp KR (.int .i64)) (R : List RR) (i : Nat) (hi : i < R.length) (q : Unit × List Int × Bool) (b : List Int) (h : ∀ x ∈ nums R[i], okN x) (hb : b.length + 100 ≤ 1099511627776) :
    loopO (usage_Sheet_Write.l5 (xs, R) ((i : Int), q)) (0, (), b, false) = some ((), b ++ rowB R[i], false) := by
  have hr : R.getD ((i : Int)).toNat (0, (0, (0, (0, (0, 0))))) = R[i] := Go.Pg.at_ R i hi _
  have hf : ∀ s5 : Int × Unit × List Int × Bool, usage_Sheet_Write.l5 (xs, R) ((i : Int), q) s5 = bif decide (s5.1 < ((nums (R.getD ((i : Int)).toNat (0, (0, (0, (0, (0, 0))))))).length : Int)) then (bif (decide (0 ≤ s5.1) && decide (s5.1 < ((nums (R.getD ((i : Int)).toNat (0, (0, (0, (0, (0, 0))))))).length : Int))) then ((codec_Writer_Uint.f (s5.2.2.1, s5.2.2.2) ((nums (R.getD ((i : Int)).toNat (0, (0, (0, (0, (0, 0))))))).getD s5.1.toNat 0)).bind fun r6 => some (Sum.inl ((IntKind.i64.wrap (s5.1 + 1)), (), r6.1.1, r6.1.2))) else none) else (some (Sum.inr ((), s5.2.2.1, s5.2.2.2))) := fun _ => rfl
  rw [hr] at hf
  have hl6 : (nums R[i]).length = 6 := rfl
  refine Go.Pg.loop_up (fun j => ((j : Int), (), b ++ numsB ((nums R[i]).take j), false)) 6 ?_ ?_ ?_
  · simp [numsB]
  · intro j hj
    have hj' : j < (nums R[i]).length := by omega
    have hn := numsB_len (l := (nums R[i]).take j) (fun x hx => h x (List.mem_of_mem_take hx))
    have hlen : ((nums R[i]).take j).length ≤ 6 := by rw [List.length_take]; omega
    rw [hf]
    simp only
    rw [Go.Pg.ilt hj', Go.Pg.nn, cond_true, Bool.and_self, cond_true, Go.Pg.at_ (nums R[i]) j hj']
    rw [wuintI _ _ (h _ (List.getElem_mem hj')) (by rw [List.length_append]; omega), Option.bind_some]
    rw [Go.Pg.wrS j (by omega), numsB_snoc _ _ hj', List.append_assoc]
  · rw [hf]
    simp only
    rw [hl6, show decide (((6 : Nat) : Int) < ((6 : Nat) : Int)) = false from rfl, cond_false]
    rw [List.take_of_length_le (by omega)]
    rfl
theorem rows_len : ∀ {R : List RR}, (∀ r ∈ R, ∀ x ∈ nums r, okN x) → (R.flatMap rowB).length ≤ 60 * R.length
  | [], _ => by simp
  | r :: R, h => by
    have h1 := numsB_len (h r (by simp))
    have h2 := rows_len (R := R) (fun y hy => h y (by simp [hy]))
    have h3 : (nums r).length = 6 := rfl
    simp only [List.flatMap_cons, List.length_append, List.length_cons]
    unfold rowB at *
    omega
/-- What a sheet is as bytes, from its rows in order. -/
theorem swrite_eq (xs : Mp KR (.int .i64)) (R : List RR) (hall : usage_Sheet_all.f xs = some (xs, R)) (hlen : mlen KR (.int .i64) xs = R.length) (hR : R.length ≤ 4096) (h : ∀ r ∈ R, ∀ x ∈ nums r, okN x) :
    usage_Sheet_Write.f xs = some (xs, (sheetB R, 0)) := by
  have hg : okN (R.length : Int) := by unfold okN; omega
  have hg10 : (gr R.length).length ≤ 10 := by have := gr_short hg; simpa using this
  unfold usage_Sheet_Write.f usage_Sheet_Len.f
  simp only [Option.bind_some]
  rw [show ((mlen (Ty.pair (.int .i64) (.pair (.int .i64) (.pair (.int .i64) (.pair (.int .i64) (.pair (.int .i64) (.int .i64)))))) (.int .i64) xs : Nat) : Int) = (R.length : Int) from congrArg (fun n : Nat => (n : Int)) hlen]
  rw [wuintI _ [] hg (by simp), Option.bind_some]
  simp only [Int.toNat_natCast, List.nil_append]
  rw [hall, Option.bind_some]
  have hL : loopO (usage_Sheet_Write.l4 (xs, R)) (0, (), gr R.length, false) = some ((), sheetB R, false) := by
    refine Go.Pg.loop_up (fun i => ((i : Int), (), gr R.length ++ (R.take i).flatMap rowB, false)) R.length ?_ ?_ ?_
    · simp
    · intro i hi
      have ht := rows_len (R := R.take i) (fun r hr => h r (List.mem_of_mem_take hr))
      have hti : (R.take i).length ≤ 4096 := by rw [List.length_take]; omega
      unfold usage_Sheet_Write.l4
      simp only
      rw [Go.Pg.ilt hi, Go.Pg.nn, cond_true, Bool.and_self, cond_true]
      rw [row_loop xs R i hi _ _ (h _ (List.getElem_mem hi)) (by rw [List.length_append]; omega), Option.bind_some]
      rw [Go.Pg.wrS i (by omega), Go.Pg.take_succ R i hi, List.flatMap_append, List.append_assoc]
      simp
    · unfold usage_Sheet_Write.l4
      simp only
      rw [Go.Pg.ige, cond_false, List.take_of_length_le (Nat.le_refl _)]
      rfl
  rw [hL, Option.bind_some]
  simp only
  have ht := rows_len h
  unfold codec_Writer_Bytes.f bytes_Clone.f
  rw [show decide ((sheetB R).length ≤ 140737488355328) = true from decide_eq_true (by unfold sheetB; rw [List.length_append]; omega)]
  rfl
end Go.Proofs.Ytijpigojhildgaa.Pure
