/- Plain laws of the sheet of usage: a row is read of any bytes by the document. No statement of its own. -/
import Derived.Test.YtijpigojhildgaaCi
namespace Go.Proofs.Ytijpigojhildgaa.Pure
open Go.Vk Go.Am Go.Pg Go.Sort Go.Proofs Go.Proofs.Ytijpigojhildgaa.Y
set_option linter.unusedVariables false
set_option linter.unusedSimpArgs false
theorem goodr_eq (r c1 c3 c4 : Bool) : (bif r then (bif c1 then (bif !c3 then (some c4) else (some true)) else (some false)) else (some false)) = some (r && (c1 && (c3 || c4))) := by
  cases r <;> cases c1 <;> cases c3 <;> cases c4 <;> rfl
def goodR (i : Int) (last q : RR) : Bool := rightB6 q && ((i == 0) || decide (ord6 last q < 0))
theorem order6_dec (a b : RR) : (purserref20_order.f (nums a) (nums b)).bind (fun r => some (decide (r < 0))) = some (decide (ord6 a b < 0)) := by
  obtain ⟨q, h1, h2⟩ := order6_eq a b
  rw [h1]
  simp only [Option.bind_some, Option.some.injEq, decide_eq_decide]
  rw [h2, ord6_neg]
theorem l18_eq (r17 : (ByteArray × Int) × Int) (right : Bool) (i : Nat) (s : Rd8) (L : List RR) (last : RR) (h : okB s) (hi : (i : Int) < r17.2) (he : s.2 = 0) (hL : L.length = i) (hl : i < 1048576) (hlast : 0 < i → (L.map nums).getD (i - 1) (List.replicate 6 0) = nums last) :
    purserlaw20_UsageReads.l18 r17 (right, (i : Int), (bytesS s.1, s.2), (), L.map nums) = some (.inl (right && goodR (i : Int) last (row6 s).2, IntKind.i64.wrap ((i : Int) + 1), (bytesS (row6 s).1.1, (row6 s).1.2), (), (L ++ [(row6 s).2]).map nums)) := by
  have hU : ∀ s : Rd8, okB s → purserref03_Reader_Uint.f (bytesS s.1, s.2) 1099511627776 = some ((bytesS (uintE 1099511627776 s).1.1, (uintE 1099511627776 s).1.2), (uintE 1099511627776 s).2) := fun s h => uintE_ref 1099511627776 s h (by decide)
  obtain ⟨bs, e⟩ := s
  have he : e = 0 := he
  subst he
  generalize hs : ((bs, 0) : Rd8) = s at h ⊢
  have hs1 : s.1 = bs := by rw [← hs]
  have hs2 : s.2 = 0 := by rw [← hs]
  have h1 := uintE_ok 1099511627776 s h
  have h2 := uintE_ok 1099511627776 _ h1
  have h3 := uintE_ok 1099511627776 _ h2
  have h4 := uintE_ok 1099511627776 _ h3
  have h5 := uintE_ok 1099511627776 _ h4
  unfold purserlaw20_UsageReads.l18
  simp only
  rw [show decide ((i : Int) < r17.2) = true from decide_eq_true hi, cond_true]
  simp only [Option.bind_some]
  rw [show (s.2 == 0) = true by rw [hs2]; rfl, cond_true]
  rw [hU s h, Option.bind_some]
  simp only
  rw [hU _ h1, Option.bind_some]
  simp only
  rw [hU _ h2, Option.bind_some]
  simp only
  rw [hU _ h3, Option.bind_some]
  simp only
  rw [hU _ h4, Option.bind_some]
  simp only
  rw [hU _ h5, Option.bind_some]
  simp only
  rw [show purserref20_Right.f ([(uintE 1099511627776 s).2, (uintE 1099511627776 (uintE 1099511627776 s).1).2, (uintE 1099511627776 (uintE 1099511627776 (uintE 1099511627776 s).1).1).2, (uintE 1099511627776 (uintE 1099511627776 (uintE 1099511627776 (uintE 1099511627776 s).1).1).1).2, (uintE 1099511627776 (uintE 1099511627776 (uintE 1099511627776 (uintE 1099511627776 (uintE 1099511627776 s).1).1).1).1).2, (uintE 1099511627776 (uintE 1099511627776 (uintE 1099511627776 (uintE 1099511627776 (uintE 1099511627776 (uintE 1099511627776 s).1).1).1).1).1).2]) = some (rightB6 (row6 s).2) from right6_eq (row6 s).2, Option.bind_some]
  have hlen : decide ((L.map nums).length + ([nums (row6 s).2] : List (List Int)).length ≤ 1099511627776) = true := decide_eq_true (by simp; omega)
  have fin : ∀ e : Bool, (bif decide ((L.map nums).length + ([nums (row6 s).2] : List (List Int)).length ≤ 1099511627776) then (some (Sum.inl (e, IntKind.i64.wrap ((i : Int) + 1), (bytesS (row6 s).1.1, (row6 s).1.2), (), L.map nums ++ [nums (row6 s).2])) : Option ((Bool × Int × (ByteArray × Int) × Unit × List (List Int)) ⊕ (Bool × (ByteArray × Int) × Unit × List (List Int)))) else none) = some (Sum.inl (e, IntKind.i64.wrap ((i : Int) + 1), (bytesS (row6 s).1.1, (row6 s).1.2), (), (L ++ [(row6 s).2]).map nums)) := fun e => by
    rw [hlen, cond_true, List.map_append]; rfl
  rcases Nat.eq_zero_or_pos i with h0 | h0
  · subst h0
    rw [show (((0 : Nat) : Int) == 0) = true from rfl]
    refine Eq.trans ?_ (fin _)
    unfold goodR
    rw [show (((0 : Nat) : Int) == 0) = true from rfl]
    cases right <;> cases rightB6 (row6 s).2 <;> rfl
  · have hidx : IntKind.i64.wrap ((i : Int) - 1) = ((i - 1 : Nat) : Int) := by rw [wr _ (by omega) (by omega)]; omega
    have hne : (((i : Int)) == 0) = false := by simp; omega
    have g1 : decide (0 ≤ ((i - 1 : Nat) : Int)) = true := decide_eq_true (by omega)
    have g2 : decide (((i - 1 : Nat) : Int) < ((L.map nums).length : Int)) = true := decide_eq_true (by rw [List.length_map]; omega)
    rw [hidx, hne, g1, g2, Int.toNat_natCast, hlast h0]
    have ho := order6_dec last (row6 s).2
    refine Eq.trans ?_ (fin _)
    unfold goodR
    rw [hne]
    cases right
    · rfl
    · cases hb : rightB6 (row6 s).2
      · rfl
      · simp only [cond_true, Bool.not_false, Bool.and_self, Bool.true_and, Bool.false_or]
        exact congrArg (fun o : Option Bool => o.bind fun e28 => bif decide ((L.map nums).length + ([nums (row6 s).2] : List (List Int)).length ≤ 1099511627776) then some (Sum.inl (e28, IntKind.i64.wrap ((i : Int) + 1), (bytesS (row6 s).1.1, (row6 s).1.2), (), L.map nums ++ [nums (row6 s).2])) else none) ho
end Go.Proofs.Ytijpigojhildgaa.Pure
