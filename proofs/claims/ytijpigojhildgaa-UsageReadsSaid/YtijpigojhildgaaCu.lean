/- Plain laws of the document's codec: is there nothing more? No statement of its own. -/
import Derived.Test.YtijpigojhildgaaCt
namespace Go.Proofs.Ytijpigojhildgaa.Pure
open Go.Vk Go.Am Go.Pg Go.Sort Go.Proofs Go.Proofs.Ytijpigojhildgaa.Y
set_option linter.unusedVariables false
set_option linter.unusedSimpArgs false
theorem toList_loop (b : ByteArray) : ∀ (n i : Nat) (r : List UInt8), b.size - i = n → (ByteArray.toList.loop b i r).length = n + r.length
  | 0, i, r, h => by
    unfold ByteArray.toList.loop
    rw [if_neg (by omega)]
    simp
  | n + 1, i, r, h => by
    unfold ByteArray.toList.loop
    rw [if_pos (by omega), toList_loop b n (i + 1) _ (by omega)]
    simp only [List.length_cons]
    omega
theorem toList_len (b : ByteArray) : b.toList.length = b.size := by
  unfold ByteArray.toList
  rw [toList_loop b b.size 0 [] (by omega)]
  simp
theorem bytes_none (bs : List Int) : ((bytesS bs).toList == (⟨#[]⟩ : ByteArray).toList) = decide (bs.length = 0) := by
  by_cases h : bs.length = 0
  · have : bs = [] := List.eq_nil_of_length_eq_zero h
    subst this
    rw [bytesS_nil]
    simp
  · rw [decide_eq_false h]
    apply beq_eq_false_iff_ne.2
    intro e
    have := congrArg List.length e
    rw [toList_len, toList_len, bytesS_size] at this
    exact h this
theorem ref_end (s : Rd8) : purserref03_Reader_End.f (bytesS s.1, s.2) = some ((bytesS s.1, s.2), endR s) := by
  obtain ⟨bs, e⟩ := s
  unfold purserref03_Reader_End.f endR
  simp only [bytes_none]
  by_cases he : e = 0
  · subst he
    by_cases hl : bs.length = 0
    · simp [hl]
    · simp [hl]
  · have : (e == 0) = false := by simp [he]
    simp [this, he]
end Go.Proofs.Ytijpigojhildgaa.Pure
