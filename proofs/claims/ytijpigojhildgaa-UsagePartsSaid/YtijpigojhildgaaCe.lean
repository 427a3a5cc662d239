/- Plain laws of the codec: readers that may have found an error. No statement of its own. -/
import Derived.Test.YtijpigojhildgaaCd
namespace Go.Proofs.Ytijpigojhildgaa.Pure
open Go.Vk Go.Am Go.Pg Go.Sort Go.Proofs Go.Proofs.Ytijpigojhildgaa.Y
set_option linter.unusedVariables false
set_option linter.unusedSimpArgs false
/-- A reader: bytes, and an error. -/
abbrev Rd8 := List Int × Int
def okB (s : Rd8) : Prop := (∀ x ∈ s.1, 0 ≤ x ∧ x ≤ 255) ∧ s.1.length ≤ 1099511627776
def uintE (most : Nat) (s : Rd8) : Rd8 × Int := if s.2 = 0 then uintR most s.1 else (s, 0)
theorem uintR_cases (most : Nat) (bs : List Int) (hb : ∀ x ∈ bs, 0 ≤ x ∧ x ≤ 255) :
    (∃ (n : Nat) (r : List Int), bs = gr n ++ r ∧ n ≤ most ∧ n < 2 ^ 63 ∧ uintR most bs = ((r, 0), (n : Int))) ∨ (∃ e : Int, e ≠ 0 ∧ uintR most bs = ((bs, e), 0)) := by
  unfold uintR
  cases hr : rdG 0 0 bs with
  | inl er => rcases rdG_err hr with rfl | rfl <;> exact .inr ⟨_, by decide, rfl⟩
  | inr p =>
    obtain ⟨v, r⟩ := p
    obtain ⟨m, e1, e2, _, e4⟩ := rdG_gr bs 0 0 v r (by omega) hb hr
    have hv : v = m := by simpa using e2
    subst hv
    have h9 : (128 : Nat) ^ (9 - 0) = 2 ^ 63 := by decide
    rw [h9] at e4
    simp only
    by_cases hc : v ≤ most
    · rw [if_pos hc]; exact .inl ⟨v, r, e1, hc, e4, rfl⟩
    · rw [if_neg hc]; exact .inr ⟨5, by decide, rfl⟩
/-- What is behind a read: an error that stays, or a number ahead of what is left. -/
theorem uintE_cases (most : Nat) (s : Rd8) (h : okB s) :
    (∃ (n : Nat) (r : List Int), s = (gr n ++ r, 0) ∧ n ≤ most ∧ n < 2 ^ 63 ∧ uintE most s = ((r, 0), (n : Int)) ∧ okB (r, 0)) ∨ (∃ e : Int, e ≠ 0 ∧ uintE most s = ((s.1, e), 0) ∧ okB (s.1, e)) := by
  obtain ⟨bs, e⟩ := s
  obtain ⟨hb, hl⟩ := h
  unfold uintE
  by_cases he : e = 0
  · subst he
    rw [if_pos rfl]
    rcases uintR_cases most bs hb with ⟨n, r, rfl, h1, h2, h3⟩ | ⟨e, h1, h2⟩
    · refine .inl ⟨n, r, rfl, h1, h2, h3, fun x hx => hb x (by simp [hx]), ?_⟩
      simp only [List.length_append] at hl ⊢
      omega
    · exact .inr ⟨e, h1, h2, hb, hl⟩
  · rw [if_neg he]
    exact .inr ⟨e, he, rfl, hb, hl⟩
theorem uintE_own (most : Nat) (s : Rd8) (h : okB s) (hm : most < 2 ^ 63) : codec_Reader_Uint.f (s.1, s.2) (most : Int) = some (uintE most s) := by
  obtain ⟨bs, e⟩ := s
  unfold uintE
  by_cases he : e = 0
  · subst he
    rw [if_pos rfl]
    exact uint_any bs most h.1 h.2 hm
  · rw [if_neg he]
    have : (e != 0) = true := by simp [he]
    unfold codec_Reader_Uint.f
    simp only [this, cond_true]
theorem uintE_ref (most : Nat) (s : Rd8) (h : okB s) (hm : most < 2 ^ 63) : purserref03_Reader_Uint.f (bytesS s.1, s.2) (most : Int) = some ((bytesS (uintE most s).1.1, (uintE most s).1.2), (uintE most s).2) := by
  obtain ⟨bs, e⟩ := s
  unfold uintE
  by_cases he : e = 0
  · subst he
    rw [if_pos rfl]
    exact ruint_any bs most h.1 h.2 hm
  · rw [if_neg he]
    have : (e != 0) = true := by simp [he]
    unfold purserref03_Reader_Uint.f
    simp only [this, cond_true]
end Go.Proofs.Ytijpigojhildgaa.Pure
