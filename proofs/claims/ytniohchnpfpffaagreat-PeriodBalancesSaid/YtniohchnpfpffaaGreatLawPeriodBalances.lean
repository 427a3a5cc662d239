/- The law PeriodBalances: whatever the input (no condition),the call returns true,and each argument reads as it did. -/
import Derived.Test.YtniohchnpfpffaaGreatRows
import Derived.Test.YtniohchnpfpffaaGreatZ1w
import Derived.Test.YtniohchnpfpffaaGreatAmE
import Derived.Test.YtniohchnpfpffaaGreatPurePeriodBalances
import Derived.WalkKit
import Derived.ProofKit
import Derived.OpenShut
import Derived.ShutString
import Derived.ChangeOld
import Derived.Below
import Derived.SizedLaws
set_option linter.unusedSimpArgs false
set_option linter.unusedVariables false
namespace Go.Proofs.YtniohchnpfpffaaGreat.periodBalances
open Go.ChangeShapes Go.WideShapes Go.ChangeAt Go.RowKit Go.Vk Go.Am
open Go.ChangeMaps (open_string shut_string)
theorem own:ownKnob Tryz.prog.godebug=none:=by kernel_rfl
theorem laidOut:laidOutB Tryz.prog=true:=by kernel_rfl
set_option maxRecDepth 100000 in
theorem lifted(os:Os)(started:os.Started)(H:Type)(enc:TypeId×Value→H):
    ReturnsInHanded {} Tryz.checked os 7 .any (Rows.periodBalancesSpec.pre6 enc Tryz.prog Tryz.f7 Rows.periodBalancesRow.domain false) (Rows.periodBalancesSpec.post enc Tryz.prog Tryz.f7 false true false false):=by
  refine returnsInHanded_of_change_sized (C:=Tryz.checked) own started (by kernel_rfl) Tryz.func7
    (ChangeSpec.witness6 (enc:=enc) (C:=Tryz.checked) false ⟨#[],#[.slice none 0 0],[]⟩ 8 (by kernel_rfl) (by kernel_rfl) (by kernel_rfl) (by kernel_rfl)) ?_
  intro W base args ds gs before hval0 hW hcnd hsz0 _
  have hsz:(DataW.weightsEach Tryz.prog (Tryz.f7.params.toList++Rows.periodBalancesSpec.plain.varTypes Tryz.prog) (ds++gs)).all (· ≤reachBytes)=true:=hsz0
  have hval: ∀(j:Nat) t v,Tryz.f7.params[j]? =some t→args[j]? =some v→Value.okWide Tryz.prog W .any base t v:=hval0
  have hW':=hW
  obtain⟨p,q,hA0,hV,rfl,hfz,hnd⟩:=hW
  have hA:DataW.TrodAll enc Tryz.prog W 0 (fun _=>true) true Tryz.f7.params.toList args.toList ds p:=hA0
  rw[Tryz.params7]at hA hval hsz
  obtain⟨v0,vs0,d0,ds0,p0,q0,hargs,rfl,rfl,h0,r0⟩:=trodAll_cons hA
  obtain⟨rfl,rfl,rfl⟩:=trodAll_nil r0
  obtain rfl:args= #[v0]:=by cases args;simp_all
  obtain⟨rfl,rfl⟩:=trodVars_none hV
  have lt0: ∀x∈p0,x.block<W.heap.size:=by obtain⟨m,hm⟩:=h0;exact DataW.trod_lt m _ _ _ hm
  obtain⟨y0,yl0,yc0,rfl⟩:=okWide_slice Tryz.underlying79 (hval 0 79 v0 rfl rfl)
  obtain⟨x0,hr0,wf0⟩: ∃x:Ty.Den (.slice (.pair (.int .i64) (.pair (.int .i64) (.pair (.slice (.int .i64)) (.pair (.slice (.int .i64)) (.pair (.int .i64) (.pair (.int .i64) (.slice (.int .i64))))))))),zco (.slice (.pair (.int .i64) (.pair (.int .i64) (.pair (.slice (.int .i64)) (.pair (.slice (.int .i64)) (.pair (.int .i64) (.pair (.int .i64) (.slice (.int .i64))))))))) (fun _=>0) W x _∧zt4 (.slice (.pair (.int .i64) (.pair (.int .i64) (.pair (.slice (.int .i64)) (.pair (.slice (.int .i64)) (.pair (.int .i64) (.pair (.int .i64) (.slice (.int .i64))))))))) x:=by obtain⟨fu,hf⟩:=h0;exact open_ty 30 (.slice (.pair (.int .i64) (.pair (.int .i64) (.pair (.slice (.int .i64)) (.pair (.slice (.int .i64)) (.pair (.int .i64) (.pair (.int .i64) (.slice (.int .i64))))))))) 79 fu _ _ (by kernel_rfl) hf (ze9 hsz 0 79 d0 rfl rfl)
  have hpure:=Pure.PeriodBalances x0 wf0
  refine(zzq Y.purserlaw15_PeriodBalances.ok W [zCu false (.slice (.pair (.int .i64) (.pair (.int .i64) (.pair (.slice (.int .i64)) (.pair (.slice (.int .i64)) (.pair (.int .i64) (.pair (.int .i64) (.slice (.int .i64))))))))) x0] x0 [_] rfl hpure (zyp (zBz hr0 rfl) zC0)).mono fun e W' ⟨he,σ',hev⟩=> ?_
  subst he
  obtain⟨hi,hev⟩:=hev.ev1 rng0
  have bel:Below W.heap.size W W':=hev.below (fun _ _=> .inl (by decide))
  exact⟨_,rfl,_,_,_,[],_,[],hW',trodAll_mk1 (shut_bool Tryz.underlying4 _),(trodAll_cons_mk (Below.trod laidOut (by kernel_rfl) (of_decide_eq_true (by kernel_rfl)) h0 bel lt0) trodAll_mk0),rfl,bel.frame _,fun h=>by cases h⟩
theorem over:Rows.periodBalancesRow.holds Tryz.pinned (OpenSpec.ofChange Rows.periodBalancesSpec):=
  OpenClaim.holds_of_wide 7 Tryz.f7 rfl rfl rfl rfl rfl rfl rfl ⟨rfl,rfl,rfl,rfl,rfl⟩ rfl rfl rfl rfl rfl (by kernel_rfl) Tryz.func7 (by kernel_rfl)
    (of_decide_eq_true (by kernel_rfl)) (by unfold Func.isWrapper;first|(rw[if_pos (by decide+kernel)];kernel_rfl)|(rw[if_neg (by decide+kernel)];exact⟨rfl,rfl⟩))
    (fun os started H enc _=>lifted os started H enc)
theorem proved:Rows.PeriodBalancesSaid:=over
end Go.Proofs.YtniohchnpfpffaaGreat.periodBalances
