/- The law UsageReads: whatever the input (no condition), the call returns true, and each argument reads as it did. -/
import Derived.Test.YtijpigojhildgaaRows
import Derived.Test.YtijpigojhildgaaT1w
import Derived.Test.YtijpigojhildgaaAmE
import Derived.Test.YtijpigojhildgaaPureUsageReads
import Derived.WalkKit
import Derived.ProofKit
import Derived.OpenShut
import Derived.ShutString
import Derived.ChangeOld
import Derived.Below
import Derived.SizedLaws
namespace Go.Proofs.Ytijpigojhildgaa.usageReads
open Go.ChangeShapes Go.WideShapes Go.ChangeAt Go.RowKit Go.Vk Go.Am
open Go.ChangeMaps (open_string shut_string)
set_option linter.unusedVariables false
set_option linter.unusedSimpArgs false
theorem own : ownKnob Try.prog.godebug = none := by kernel_rfl
theorem laidOut : laidOutB Try.prog = true := by kernel_rfl
set_option maxRecDepth 100000 in
theorem lifted (os : Os) (started : os.Started) (H : Type) (enc : TypeId × Value → H) :
    ReturnsInHanded {} Try.checked os 7 .any (Rows.usageReadsSpec.pre6 enc Try.prog Try.f7 Rows.usageReadsRow.domain false) (Rows.usageReadsSpec.post enc Try.prog Try.f7 false true false false) := by
  refine returnsInHanded_of_change_sized (C := Try.checked) own started (by kernel_rfl) Try.func7
    (ChangeSpec.witness6 (enc := enc) (C := Try.checked) false ⟨#[], #[.slice none 0 0], []⟩ 8 (by kernel_rfl) (by kernel_rfl) (by kernel_rfl) (by kernel_rfl)) ?_
  intro W base args ds gs before hval0 hW hcnd hsz0 _
  have hsz : (DataW.weightsEach Try.prog (Try.f7.params.toList ++ Rows.usageReadsSpec.plain.varTypes Try.prog) (ds ++ gs)).all (· ≤ reachBytes) = true := hsz0
  have hval : ∀ (j : Nat) t v, Try.f7.params[j]? = some t → args[j]? = some v → Value.okWide Try.prog W .any base t v := hval0
  have hW' := hW
  obtain ⟨p, q, hA0, hV, rfl, hfz, hnd⟩ := hW
  have hA : DataW.TrodAll enc Try.prog W 0 (fun _ => true) true Try.f7.params.toList args.toList ds p := hA0
  rw [Try.params7] at hA hval hsz
  obtain ⟨v0, vs0, d0, ds0, p0, q0, hargs, rfl, rfl, h0, r0⟩ := trodAll_cons hA
  obtain ⟨rfl, rfl, rfl⟩ := trodAll_nil r0
  obtain rfl : args = #[v0] := by cases args; simp_all
  obtain ⟨rfl, rfl⟩ := trodVars_none hV
  have lt0 : ∀ x ∈ p0, x.block < W.heap.size := by obtain ⟨m, hm⟩ := h0; exact DataW.trod_lt m _ _ _ hm
  obtain ⟨y0, yl0, yc0, rfl⟩ := okWide_slice Try.underlying54 (hval 0 54 v0 rfl rfl)
  obtain ⟨x0, hr0, wf0⟩ : ∃ x : Ty.Den (.slice (.int .u8)), repTy (.slice (.int .u8)) (fun _ => 0) W x _ ∧ wfTy (.slice (.int .u8)) x := by obtain ⟨fu, hf⟩ := h0; exact open_ty 30 (.slice (.int .u8)) 54 fu _ _ (by kernel_rfl) hf (weightsEach_mem hsz 0 54 d0 rfl rfl)
  have hpure := Pure.UsageReads x0 wf0
  refine (law_calls Y.purserlaw20_UsageReads.ok W [encV false (.slice (.int .u8)) x0] x0 [_] rfl hpure (relL_cons (relV_one hr0 rfl) relL_nil)).mono fun e W' ⟨he, σ', hev⟩ => ?_
  subst he
  obtain ⟨hi, hev⟩ := hev.ev1 rng0
  have bel : Below W.heap.size W W' := hev.below (fun _ _ => .inl (by decide))
  exact ⟨_, rfl, _, _, _, [], _, [], hW', trodAll_mk1 (shut_bool Try.underlying4 _), (trodAll_cons_mk (Below.trod laidOut (by kernel_rfl) (of_decide_eq_true (by kernel_rfl)) h0 bel lt0) trodAll_mk0), rfl, bel.frame _, fun h => by cases h⟩
theorem over : Rows.usageReadsRow.holds Try.pinned (OpenSpec.ofChange Rows.usageReadsSpec) :=
  OpenClaim.holds_of_wide 7 Try.f7 rfl rfl rfl rfl rfl rfl rfl ⟨rfl, rfl, rfl, rfl, rfl⟩ rfl rfl rfl rfl rfl (by kernel_rfl) Try.func7 (by kernel_rfl)
    (of_decide_eq_true (by kernel_rfl)) (by unfold Func.isWrapper; first | (rw [if_pos (by decide +kernel)]; kernel_rfl) | (rw [if_neg (by decide +kernel)]; exact ⟨rfl, rfl⟩))
    (fun os started H enc _ => lifted os started H enc)
theorem proved : Rows.UsageReadsSaid := over
end Go.Proofs.Ytijpigojhildgaa.usageReads
