/- The law InvoiceNets: whatever the input (no condition),the call returns true,and each argument reads as it did. -/
import Derived.Test.YtfcgafnmlkiimaaGreatDoorRows
import Derived.Test.YtfcgafnmlkiimaaGreatDoorTie
import Derived.Test.YtfcgafnmlkiimaaGreatDoorCards
import Derived.Test.YtfcgafnmlkiimaaGreatDoorI1w
import Derived.Test.YtfcgafnmlkiimaaGreatDoorAmE
import Derived.Test.YtfcgafnmlkiimaaGreatDoorPureInvoiceNets
import Derived.WalkKit
import Derived.ProofKit
import Derived.OpenShut
import Derived.ShutString
import Derived.ChangeOld
import Derived.Below
import Derived.SizedLaws
import Derived.LaidMore
import Derived.SevenTiedAt
import Derived.HandedShaped
set_option linter.unusedSimpArgs false
set_option linter.unusedVariables false
namespace Go.Proofs.YtfcgafnmlkiimaaGreatDoor.invoiceNets
open Go.ChangeShapes Go.WideShapes Go.ChangeAt Go.RowKit Go.Vk Go.Am
open Go.ChangeMaps (open_string shut_string)
theorem own:ownKnob Tryz.prog.godebug=none:=by kernel_rfl
theorem laidOut:laidOutB Tryz.prog=true:=by kernel_rfl
def laid3 : List (String × DataW Unit) := [("math/bits.deBruijn32tab",Rows.laid_math_bits_deBruijn32tab),("math/bits.deBruijn64tab",Rows.laid_math_bits_deBruijn64tab),("internal/strconv.uint64pow10",Rows.laid_internal_strconv_uint64pow10)]
/-- The door's own heap meets the condition. -/
theorem door_met(os:Os)(args:Array Value):laidMetH Tryz.prog laid3 ((World.doorLaid Tryz.prog 400 os).forCall (fun _ _=>0) ⟨#[],args,[]⟩).memory:=
  laidMetH_of_parts3 (fuel:=8) (laidMet_of_run' 8 (by kernel_rfl) (by kernel_rfl)) (by kernel_rfl) (by kernel_rfl)
set_option maxRecDepth 100000 in
theorem lifted(os:Os)(started:os.Started)(H:Type)(enc:TypeId×Value→H):
    ReturnsInHanded {} Tryz.checked os 5 .any (fun w args=>(Rows.invoiceNetsSpec.pre enc Tryz.prog Tryz.f5 [] false w args∧laidMetH Tryz.prog laid3 w)∧sizedMet enc Tryz.prog Tryz.f5 (OpenSpec.ofChange Rows.invoiceNetsSpec) false w args)
      (Rows.invoiceNetsSpec.post enc Tryz.prog Tryz.f5 false true false false):=by
  refine returnsInHanded_of_change_and (C:=Tryz.checked) (X:=fun w _=>laidMetH Tryz.prog laid3 w) (fun _ _ _ hh h=>h.of_heap hh) own started (by kernel_rfl) Tryz.func5
    (ChangeSpec.witness_shaped (enc:=enc) (C:=Tryz.checked) (os:=os) (X:=fun w _=>laidMetH Tryz.prog laid3 w) false (World.doorLaid Tryz.prog 400 os) #[.slice none 0 0,.slice none 0 0,.int .i64 0] 8 rfl (World.shaped_of_RefB (by kernel_rfl) (by kernel_rfl)) (by kernel_rfl) (by kernel_rfl) (by kernel_rfl) (door_met os _)) ?_
  intro W base args ds gs before hval0 hW hcnd hsz0 _ _
  have hsz:(DataW.weightsEach Tryz.prog (Tryz.f5.params.toList++Rows.invoiceNetsSpec.plain.varTypes Tryz.prog) (ds++gs)).all (· ≤reachBytes)=true:=hsz0
  have hval: ∀(j:Nat) t v,Tryz.f5.params[j]? =some t→args[j]? =some v→Value.okWide Tryz.prog W .any base t v:=hval0
  have hW':=hW
  obtain⟨p,q,hA0,hV,rfl,hfz,hnd⟩:=hW
  have hA:DataW.TrodAll enc Tryz.prog W 0 (fun _=>true) true Tryz.f5.params.toList args.toList ds p:=hA0
  rw[Tryz.params5]at hA hval hsz
  obtain⟨v0,vs0,d0,ds0,p0,q0,hargs,rfl,rfl,h0,r0⟩:=trodAll_cons hA
  obtain⟨v1,vs1,d1,ds1,p1,q1,rfl,rfl,rfl,h1,r1⟩:=trodAll_cons r0
  obtain⟨v2,vs2,d2,ds2,p2,q2,rfl,rfl,rfl,h2,r2⟩:=trodAll_cons r1
  obtain⟨rfl,rfl,rfl⟩:=trodAll_nil r2
  obtain rfl:args= #[v0,v1,v2]:=by cases args;simp_all
  obtain⟨rfl,rfl⟩:=trodVars_none hV
  have lt0: ∀x∈p0,x.block<W.heap.size:=by obtain⟨m,hm⟩:=h0;exact DataW.trod_lt m _ _ _ hm
  obtain⟨y0,yl0,yc0,rfl⟩:=okWide_slice Tryz.underlying48 (hval 0 48 v0 rfl rfl)
  obtain⟨x0,hr0,wf0⟩: ∃x:Ty.Den (.slice (.pair (.int .i64) (.pair (.int .i64) (.pair (.int .i64) .bool)))),repTy (.slice (.pair (.int .i64) (.pair (.int .i64) (.pair (.int .i64) .bool)))) (fun _=>0) W x _∧wfTy (.slice (.pair (.int .i64) (.pair (.int .i64) (.pair (.int .i64) .bool)))) x:=by obtain⟨fu,hf⟩:=h0;exact open_ty 30 (.slice (.pair (.int .i64) (.pair (.int .i64) (.pair (.int .i64) .bool)))) 48 fu _ _ (by kernel_rfl) hf (weightsEach_mem hsz 0 48 d0 rfl rfl)
  have lt1: ∀x∈p1,x.block<W.heap.size:=by obtain⟨m,hm⟩:=h1;exact DataW.trod_lt m _ _ _ hm
  obtain⟨y1,yl1,yc1,rfl⟩:=okWide_slice Tryz.underlying49 (hval 1 49 v1 rfl rfl)
  obtain⟨x1,hr1,wf1⟩: ∃x:Ty.Den (.slice (.int .i64)),repTy (.slice (.int .i64)) (fun _=>0) W x _∧wfTy (.slice (.int .i64)) x:=by obtain⟨fu,hf⟩:=h1;exact open_ty 30 (.slice (.int .i64)) 49 fu _ _ (by kernel_rfl) hf (weightsEach_mem hsz 1 49 d1 rfl rfl)
  have lt2: ∀x∈p2,x.block<W.heap.size:=by obtain⟨m,hm⟩:=h2;exact DataW.trod_lt m _ _ _ hm
  obtain⟨y2,rfl⟩:=okWide_int Tryz.underlying3 (hval 2 3 v2 rfl rfl)
  obtain⟨x2,hr2,wf2⟩: ∃x:Ty.Den (.int .i64),repTy (.int .i64) (fun _=>0) W x _∧wfTy (.int .i64) x:=by obtain⟨fu,hf⟩:=h2;exact open_ty 30 (.int .i64) 3 fu _ _ (by kernel_rfl) hf (weightsEach_mem hsz 2 3 d2 rfl rfl)
  have hpure:=Pure.InvoiceNets x0 x1 x2 wf0 wf1 wf2
  refine(law_calls Y.purserlaw21_InvoiceNets.ok W [encV false (.slice (.pair (.int .i64) (.pair (.int .i64) (.pair (.int .i64) .bool)))) x0,encV false (.slice (.int .i64)) x1,encV false (.int .i64) x2] (x0,x1,x2) [_,_,_] rfl hpure (relL_cons (relV_one hr0 rfl) (relL_cons (relV_one hr1 rfl) (relL_cons (relV_one hr2 rfl) relL_nil)))).mono fun e W' ⟨he,σ',hev⟩=> ?_
  subst he
  obtain⟨hi,hev⟩:=hev.ev1 rng0
  have bel:Below W.heap.size W W':=hev.below (fun _ _=> .inl (by decide))
  exact⟨_,rfl,_,_,_,[],_,[],hW',trodAll_mk1 (shut_bool Tryz.underlying4 _),(trodAll_cons_mk (Below.trod laidOut (by kernel_rfl) (of_decide_eq_true (by kernel_rfl)) h0 bel lt0) (trodAll_cons_mk (Below.trod laidOut (by kernel_rfl) (of_decide_eq_true (by kernel_rfl)) h1 bel lt1) (trodAll_cons_mk (Below.trod laidOut (by kernel_rfl) (of_decide_eq_true (by kernel_rfl)) h2 bel lt2) trodAll_mk0))),rfl,bel.frame _,fun h=>by cases h⟩
theorem over:Rows.invoiceNetsRow.holds Tryz.pinned (OpenSpec.ofChange Rows.invoiceNetsSpec):=
  OpenClaim.holds_of_wide 5 Tryz.f5 rfl rfl rfl rfl rfl rfl rfl ⟨rfl,rfl,rfl,rfl,rfl⟩ rfl rfl rfl rfl rfl (by kernel_rfl) Tryz.func5 (by kernel_rfl)
    (of_decide_eq_true (by kernel_rfl)) (by unfold Func.isWrapper;first|(rw[if_pos (by decide+kernel)];kernel_rfl)|(rw[if_neg (by decide+kernel)];exact⟨rfl,rfl⟩))
    (fun os started H enc _=>lifted os started H enc)
theorem proved:Rows.InvoiceNetsCardSaid:=
  Claim7.holds_tied_plain_at .later [] [.data,.data,.data] true (true,"f73d484f5cc4cbfaac59cb7c0bd234d342763378d72e8f6d330d5e9aa9ed54ae") false
    over (fun _ h=>by cases h) (by kernel_rfl) (fun _ h=>by cases h) invoiceNets_row_tie rfl ⟨rfl,rfl⟩ (by kernel_rfl) rfl
    (fun f fn hf hfn=>by
      obtain rfl : f = 5 := Option.some.inj ((show Tryz.prog.funcNamed "purser/purserlaw21.InvoiceNets" = some 5 by kernel_rfl).symm.trans hf) |>.symm
      obtain rfl:fn=Tryz.f5:=(Option.some.inj (Tryz.func5.symm.trans hfn)).symm
      exact⟨by kernel_rfl,fun j t ht=>by
        have hm:t∈Tryz.f5.params.toList:=by simpa using Array.mem_of_getElem? ht
        have hall:(Tryz.f5.params.toList.all fun u=> !Tryz.prog.wantsStandIn u)=true:=by kernel_rfl
        exact(show Tryz.prog.wantsStandIn t=false by simpa using List.all_eq_true.1 hall t hm)⟩)
    (by kernel_rfl)
end Go.Proofs.YtfcgafnmlkiimaaGreatDoor.invoiceNets
