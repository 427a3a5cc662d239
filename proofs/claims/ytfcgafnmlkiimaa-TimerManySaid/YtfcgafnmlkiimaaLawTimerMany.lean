/- The law TimerMany: whatever the input (no condition), the call returns true, and each argument reads as it did. -/
import Derived.Test.YtfcgafnmlkiimaaRows
import Derived.Test.YtfcgafnmlkiimaaA5w
import Derived.Test.YtfcgafnmlkiimaaAmE
import Derived.Test.YtfcgafnmlkiimaaPureTimerMany
import Derived.WalkKit
import Derived.ProofKit
import Derived.OpenShut
import Derived.ShutString
import Derived.ChangeOld
import Derived.Below
import Derived.SizedLaws
namespace Go.Proofs.Ytfcgafnmlkiimaa.timerMany
open Go.ChangeShapes Go.WideShapes Go.ChangeAt Go.RowKit Go.Vk Go.Am
open Go.ChangeMaps (open_string shut_string)
set_option linter.unusedVariables false
set_option linter.unusedSimpArgs false
theorem own : ownKnob Try.prog.godebug = none := by kernel_rfl
theorem laidOut : laidOutB Try.prog = true := by kernel_rfl
set_option maxRecDepth 100000 in
theorem lifted (os : Os) (started : os.Started) (H : Type) (enc : TypeId × Value → H) :
    ReturnsInHanded {} Try.checked os 4 .any (Rows.timerManySpec.pre6 enc Try.prog Try.f4 Rows.timerManyRow.domain false) (Rows.timerManySpec.post enc Try.prog Try.f4 false true false false) := by
  refine returnsInHanded_of_change_sized (C := Try.checked) own started (by kernel_rfl) Try.func4
    (ChangeSpec.witness6 (enc := enc) (C := Try.checked) false ⟨#[], #[.int .i64 0, .slice none 0 0], []⟩ 8 (by kernel_rfl) (by kernel_rfl) (by kernel_rfl) (by kernel_rfl)) ?_
  intro W base args ds gs before hval0 hW hcnd hsz0 _
  have hsz : (DataW.weightsEach Try.prog (Try.f4.params.toList ++ Rows.timerManySpec.plain.varTypes Try.prog) (ds ++ gs)).all (· ≤ reachBytes) = true := hsz0
  have hval : ∀ (j : Nat) t v, Try.f4.params[j]? = some t → args[j]? = some v → Value.okWide Try.prog W .any base t v := hval0
  have hW' := hW
  obtain ⟨p, q, hA0, hV, rfl, hfz, hnd⟩ := hW
  have hA : DataW.TrodAll enc Try.prog W 0 (fun _ => true) true Try.f4.params.toList args.toList ds p := hA0
  rw [Try.params4] at hA hval hsz
  obtain ⟨v0, vs0, d0, ds0, p0, q0, hargs, rfl, rfl, h0, r0⟩ := trodAll_cons hA
  obtain ⟨v1, vs1, d1, ds1, p1, q1, rfl, rfl, rfl, h1, r1⟩ := trodAll_cons r0
  obtain ⟨rfl, rfl, rfl⟩ := trodAll_nil r1
  obtain rfl : args = #[v0, v1] := by cases args; simp_all
  obtain ⟨rfl, rfl⟩ := trodVars_none hV
  have lt0 : ∀ x ∈ p0, x.block < W.heap.size := by obtain ⟨m, hm⟩ := h0; exact DataW.trod_lt m _ _ _ hm
  obtain ⟨y0, rfl⟩ := okWide_int Try.underlying3 (hval 0 3 v0 rfl rfl)
  obtain ⟨x0, hr0, wf0⟩ : ∃ x : Ty.Den (.int .i64), repTy (.int .i64) (fun _ => 0) W x _ ∧ wfTy (.int .i64) x := by obtain ⟨fu, hf⟩ := h0; exact open_ty 30 (.int .i64) 3 fu _ _ (by kernel_rfl) hf (weightsEach_mem hsz 0 3 d0 rfl rfl)
  have lt1 : ∀ x ∈ p1, x.block < W.heap.size := by obtain ⟨m, hm⟩ := h1; exact DataW.trod_lt m _ _ _ hm
  obtain ⟨y1, yl1, yc1, rfl⟩ := okWide_slice Try.underlying23 (hval 1 23 v1 rfl rfl)
  obtain ⟨x1, hr1, wf1⟩ : ∃ x : Ty.Den (.slice (.int .i64)), repTy (.slice (.int .i64)) (fun _ => 0) W x _ ∧ wfTy (.slice (.int .i64)) x := by obtain ⟨fu, hf⟩ := h1; exact open_ty 30 (.slice (.int .i64)) 23 fu _ _ (by kernel_rfl) hf (weightsEach_mem hsz 1 23 d1 rfl rfl)
  have hpure := Pure.TimerMany x0 x1 wf0 wf1
  refine (law_calls Y.purserlaw19_TimerMany.ok W [encV false (.int .i64) x0, encV false (.slice (.int .i64)) x1] (x0, x1) [_, _] rfl hpure (relL_cons (relV_one hr0 rfl) (relL_cons (relV_one hr1 rfl) relL_nil))).mono fun e W' ⟨he, σ', hev⟩ => ?_
  subst he
  obtain ⟨hi, hev⟩ := hev.ev1 rng0
  have bel : Below W.heap.size W W' := hev.below (fun _ _ => .inl (by decide))
  exact ⟨_, rfl, _, _, _, [], _, [], hW', trodAll_mk1 (shut_bool Try.underlying4 _), (trodAll_cons_mk (Below.trod laidOut (by kernel_rfl) (of_decide_eq_true (by kernel_rfl)) h0 bel lt0) (trodAll_cons_mk (Below.trod laidOut (by kernel_rfl) (of_decide_eq_true (by kernel_rfl)) h1 bel lt1) trodAll_mk0)), rfl, bel.frame _, fun h => by cases h⟩
theorem over : Rows.timerManyRow.holds Try.pinned (OpenSpec.ofChange Rows.timerManySpec) :=
  OpenClaim.holds_of_wide 4 Try.f4 rfl rfl rfl rfl rfl rfl rfl ⟨rfl, rfl, rfl, rfl, rfl⟩ rfl rfl rfl rfl rfl (by kernel_rfl) Try.func4 (by kernel_rfl)
    (of_decide_eq_true (by kernel_rfl)) (by unfold Func.isWrapper; first | (rw [if_pos (by decide +kernel)]; kernel_rfl) | (rw [if_neg (by decide +kernel)]; exact ⟨rfl, rfl⟩))
    (fun os started H enc _ => lifted os started H enc)
theorem proved : Rows.TimerManySaid := over
end Go.Proofs.Ytfcgafnmlkiimaa.timerMany
