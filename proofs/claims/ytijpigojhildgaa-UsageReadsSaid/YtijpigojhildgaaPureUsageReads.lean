/- The plain law of UsageReads: what the law computes is true, whatever the input. -/
import Derived.Test.YtijpigojhildgaaCu
namespace Go.Proofs.Ytijpigojhildgaa.Pure
open Go.Vk Go.Am Go.Pg Go.Sort Go.Proofs Go.Proofs.Ytijpigojhildgaa.Y
set_option linter.unusedVariables false
set_option linter.unusedSimpArgs false
theorem l36_eq : purserlaw20_UsageReads.l36 = purserlaw20_UsageReads.l18 := rfl
theorem end_err (B : ByteArray) (e : Int) (he : e ≠ 0) : purserref03_Reader_End.f (B, e) = some ((B, e), e) := by
  unfold purserref03_Reader_End.f
  have : (e == 0) = false := by simp [he]
  simp [this]
/-- what both readers have behind the first number -/
theorem first_num (bs : List Int) (h : okB (bs, 0)) : ∃ N : Nat, N ≤ 4096 ∧ (uintE 4096 (bs, 0)).2 = (N : Int) ∧ okB (uintE 4096 (bs, 0)).1 ∧ ((uintE 4096 (bs, 0)).1.2 = 0 → bs = gr N ++ (uintE 4096 (bs, 0)).1.1) := by
  rcases uintE_cases 4096 (bs, 0) h with ⟨n, r, g0, g1, g2, g3, g4⟩ | ⟨e, g1, g2, g3⟩
  · rw [g3]
    exact ⟨n, g1, rfl, g4, fun _ => congrArg Prod.fst g0⟩
  · rw [g2]
    exact ⟨0, by omega, rfl, g3, fun h => absurd h g1⟩
theorem rising_of {R : List RR} {Z : RR} (h : goodAll 0 Z R = true) : R.Pairwise lt6 := by
  cases R with
  | nil => exact List.Pairwise.nil
  | cons q R =>
    simp only [goodAll, Bool.and_eq_true] at h
    exact (goodAll_from R 1 q (by omega) h.2).2
theorem UsageReads (a0 : List Int) (w0 : wfTy (.slice (.int .u8)) a0) : purserlaw20_UsageReads.f a0 = some true := by
  have hok : (decide ((0 : Int) ≤ 0) && (decide (0 ≤ (if (1500 : Int) < (a0.length : Int) then 1500 else (a0.length : Int))) && decide ((if (1500 : Int) < (a0.length : Int) then 1500 else (a0.length : Int)) ≤ (a0.length : Int)))) = true := cut_ok a0 1500
  have hcut : ((a0.take (if (1500 : Int) < (a0.length : Int) then 1500 else (a0.length : Int)).toNat).drop (0 : Int).toNat) = a0.take 1500 := cut_eq a0 1500
  unfold purserlaw20_UsageReads.f
  rw [hok, cond_true, hcut]
  have hlen : (a0.take 1500).length ≤ 1500 := by rw [List.length_take]; omega
  have hby : ∀ x ∈ a0.take 1500, 0 ≤ x ∧ x ≤ 255 := fun x hx => by
    have := w0.2 x (List.mem_of_mem_take hx)
    simp [wfTy, Lit.wf, IntKind.min, IntKind.max, IntKind.bits, IntKind.signed] at this
    omega
  generalize a0.take 1500 = bs at hlen hby ⊢
  have hB : okB (bs, 0) := ⟨hby, by show bs.length ≤ _; omega⟩
  rw [show bytes_Clone.f bs = some bs by unfold bytes_Clone.f; rw [decide_eq_true (by omega)]; rfl, Option.bind_some]
  have hu := uintE_own 4096 (bs, 0) hB (by decide)
  have hr := uintE_ref 4096 (bs, 0) hB (by decide)
  obtain ⟨N, hN, hN2, hs1, hbs⟩ := first_num bs hB
  generalize hU : uintE 4096 (bs, 0) = U at hu hr hN2 hs1 hbs
  rw [show codec_Reader_Uint.f (bs, 0) 4096 = some U from hu, Option.bind_some]
  have hO : loopO (purserlaw20_UsageReads.l3 U) (true, 0, (U.1.1, U.1.2), ([] : Sh), (0, (0, (0, (0, (0, 0)))))) = some (true && goodAll 0 (0, (0, (0, (0, (0, 0))))) (rdRows N U.1).2, (rdRows N U.1).1, (rdRows N U.1).2.foldl putRow ([] : Sh), ((rdRows N U.1).2.getLast?).getD (0, (0, (0, (0, (0, 0)))))) := own_rows U N 0 true U.1 [] (0, (0, (0, (0, (0, 0))))) hs1 (by rw [Nat.zero_add]; exact hN2.symm) (by omega)
  rw [hO, Option.bind_some]
  simp only [Bool.true_and]
  obtain ⟨right', B, e, L', g1, g2, g3⟩ := ref_rows ((bytesS U.1.1, U.1.2), U.2) N 0 true U.1 [] (0, (0, (0, (0, (0, 0))))) hs1 (by rw [Nat.zero_add]; exact hN2.symm) (by omega) rfl (fun h => absurd h (by omega))
  have hr : purserref03_Reader_Uint.f (bytesS bs, 0) 4096 = some ((bytesS U.1.1, U.1.2), U.2) := hr
  have g1 : loopO (purserlaw20_UsageReads.l18 ((bytesS U.1.1, U.1.2), U.2)) (true, 0, (bytesS U.1.1, U.1.2), (), []) = some (right', (B, e), (), L') := g1
  simp only [hr, Option.bind_some, l36_eq, g1, uses_eq]
  have hcs := rdRows_cases N U.1 hs1
  have hend := own_end (rdRows N U.1).1
  rw [hend]
  by_cases hS : (rdRows N U.1).1.2 = 0
  · obtain ⟨k1, k2, k3⟩ := g2 hS
    obtain ⟨r, c1, c2, c3, c4⟩ := hcs hS
    subst k1 k2 k3
    rw [← goodAll_R _ 0 _ c4]
    have he := ref_end (rdRows N U.1).1
    rw [hS] at he
    rw [he]
    cases hg : goodAll 0 (0, (0, (0, (0, (0, 0))))) (rdRows N U.1).2 with
    | false => rfl
    | true =>
      by_cases hz : endR (rdRows N U.1).1 = 0
      · have hp := rising_of hg
        have hl0 : (rdRows N U.1).1.1.length = 0 := by
          unfold endR at hz
          rw [if_pos hS] at hz
          by_cases h : (rdRows N U.1).1.1.length = 0
          · exact h
          · rw [if_neg h] at hz; exact absurd hz (by decide)
        have hr0 : r = [] := by
          rw [c2] at hl0
          exact List.eq_nil_of_length_eq_zero hl0
        subst hr0
        rw [List.append_nil] at c1
        have hbs' : bs = sheetB (rdRows N U.1).2 := by
          have := hbs (by rw [c1])
          rw [this]
          unfold sheetB
          rw [c3]
          exact congrArg (fun q : Rd8 => gr N ++ q.1) c1
        have hm : (rdRows N U.1).2.foldl putRow ([] : Sh) = (rdRows N U.1).2.map entQ := put_all (rdRows N U.1).2 [] hp
        have hw := swrite_eq ((rdRows N U.1).2.map entQ) (rdRows N U.1).2 (all_rows _ hp (by omega)) (mlen_ent _) (by omega) (fun q hq x hx => by have := c4 q hq x hx; exact ⟨by omega, by omega⟩)
        rw [hm, hz]
        simp only [Option.bind_some]
        rw [show usage_Sheet_Write.f ((rdRows N U.1).2.map entQ) = some ((rdRows N U.1).2.map entQ, (sheetB (rdRows N U.1).2, 0)) from hw, ← hbs']
        simp
      · have h1 : (endR (rdRows N U.1).1 != 0) = true := by simp [hz]
        have h2 : (endR (rdRows N U.1).1 == 0) = false := by simp [hz]
        simp [h1, h2]
  · have hez := g3 hS
    have hz : endR (rdRows N U.1).1 ≠ 0 := by unfold endR; rw [if_neg hS]; exact hS
    have h1 : (endR (rdRows N U.1).1 != 0) = true := by simp [hz]
    have h2 : (e == 0) = false := by simp [hez]
    rw [end_err B e hez]
    cases goodAll 0 (0, (0, (0, (0, (0, 0))))) (rdRows N U.1).2 <;> cases right' <;> simp [h1, h2]
end Go.Proofs.Ytijpigojhildgaa.Pure
