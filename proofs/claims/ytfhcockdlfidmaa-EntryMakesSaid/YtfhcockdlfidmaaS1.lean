/- The abstract machine, sorting, part 1: slices.SortFunc on a known row, with a comparison that is walked. No statement of its own. -/
import Derived.Test.YtfhcockdlfidmaaAm12
import Derived.Shelf.SlSortCmp.NoneTotal
namespace Go.Am
open Go.Vk Go.RowKit Go.Sort Go.Proofs Go.Shelf
set_option linter.unusedVariables false
set_option linter.unusedSimpArgs false
variable [Dr]

omit [Dr] in
@[reducible] def inhT : (T : Ty) → Inhabited T.Den := fun T => ⟨Ty.dfl T⟩
theorem reps_flatT {σ : Gh} {w : World} {T : Ty} (h : flatT T = true) : ∀ (xs : List T.Den) (cs : List Value), Reps T.kd σ w xs cs ↔ cs = xs.flatMap (encF T)
  | [], cs => by simp [Reps]
  | x :: xs, cs => by
    simp only [Reps, List.flatMap_cons]
    constructor
    · rintro ⟨c, r, rfl, h1, h2⟩
      rw [(rep_flat T x c h).1 h1, (reps_flatT h xs r).1 h2]
    · rintro rfl
      exact ⟨_, _, rfl, (rep_flat T x _ h).2 rfl, (reps_flatT h xs _).2 rfl⟩

/-- What a sort leaves: nothing is said where the comparison does not answer always, or is no order. -/
noncomputable def sortM {T : Ty} (f : T.Den → T.Den → Option Int) (xs : List T.Den) : Option (List T.Den) :=
  letI := inhT T
  open Classical in
  if h : (∃ cf : T.Den → T.Den → Int, (∀ x y, f x y = some (cf x y)) ∧ SWO (ltOf cf)) ∧ xs.length < 4611686018427387904 then some (pdq (ltOf h.1.choose) xs.toArray 0 xs.toArray.size (Lib.bitLen xs.toArray.size) true true).toList else none
omit [Dr] in
theorem sortM_spec {T : Ty} {f : T.Den → T.Den → Option Int} {xs : List T.Den} (cf : T.Den → T.Den → Int) (hf : ∀ x y, f x y = some (cf x y)) (hO : SWO (ltOf cf)) (hl : xs.length < 4611686018427387904) :
    ∃ ys, sortM f xs = some ys ∧ ys.Perm xs ∧ ys.Pairwise (fun a b => ltOf cf b a = false) := by
  have hh : (∃ cf : T.Den → T.Den → Int, (∀ x y, f x y = some (cf x y)) ∧ SWO (ltOf cf)) ∧ xs.length < 4611686018427387904 := ⟨⟨cf, hf, hO⟩, hl⟩
  have hc : hh.1.choose = cf := by
    funext x y
    have := hh.1.choose_spec.1 x y
    rw [hf] at this
    exact (Option.some.inj this).symm
  letI := inhT T
  refine ⟨_, by rw [sortM, dif_pos hh], ?_, ?_⟩
  all_goals
    rw [hc]
    obtain ⟨⟨p1, p2, p3⟩, p4⟩ := pdq_sorts (ltOf cf) hO xs.toArray 0 xs.toArray.size (Lib.bitLen xs.toArray.size) true true (Nat.zero_le _) (Nat.le_refl _) (Or.inl rfl)
  · have e1 : (pdq (ltOf cf) xs.toArray 0 xs.toArray.size (Lib.bitLen xs.toArray.size) true true).extract 0 xs.toArray.size = pdq (ltOf cf) xs.toArray 0 xs.toArray.size (Lib.bitLen xs.toArray.size) true true := by
      have := Array.extract_size (xs := pdq (ltOf cf) xs.toArray 0 xs.toArray.size (Lib.bitLen xs.toArray.size) true true)
      rw [p1] at this; exact this
    rw [e1, Array.extract_size] at p3
    exact p3
  · rw [List.pairwise_iff_getElem]
    intro i j hi hj hij
    have h1 : i < (pdq (ltOf cf) xs.toArray 0 xs.toArray.size (Lib.bitLen xs.toArray.size) true true).size := by simpa using hi
    have h2 : j < (pdq (ltOf cf) xs.toArray 0 xs.toArray.size (Lib.bitLen xs.toArray.size) true true).size := by simpa using hj
    have := p4 i j (Nat.zero_le _) hij (by rw [← p1]; exact h2)
    rw [getElem!_pos _ i h1, getElem!_pos _ j h2] at this
    simpa using this
end Go.Am
