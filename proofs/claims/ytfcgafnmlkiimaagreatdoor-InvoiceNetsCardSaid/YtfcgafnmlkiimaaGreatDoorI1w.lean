/- The program's functions compute what the plain functions tell,whatever the input; no statement of its own. -/
import Derived.Test.YtfcgafnmlkiimaaGreatDoorProg
import Derived.Test.YtfcgafnmlkiimaaGreatDoorAmE
import Derived.Test.YtfcgafnmlkiimaaGreatDoorI1d
import Derived.Test.YtfcgafnmlkiimaaGreatDoorSA
import Derived.Test.YtfcgafnmlkiimaaGreatDoorLSort
import Derived.Test.YtfcgafnmlkiimaaGreatDoorLGrow
import Derived.Test.YtfcgafnmlkiimaaGreatDoorLBld
import Derived.Test.YtfcgafnmlkiimaaGreatDoorPh
import Derived.Test.YtfcgafnmlkiimaaGreatDoorKhi
import Derived.Test.YtfcgafnmlkiimaaGreatDoorKh
import Derived.Test.YtfcgafnmlkiimaaGreatDoorSx
import Derived.Test.YtfcgafnmlkiimaaGreatDoorAmF
import Derived.KernelRfl
set_option linter.unusedVariables false
namespace Go.Proofs.YtfcgafnmlkiimaaGreatDoor.Y
open Go.Am Go.Vk
set_option maxRecDepth 100000
theorem ent {f : FuncId} {fn : Func} {c : Code} (hf : Tryz.prog.funcs[f]? = some fn) (hn : (fn.name == "runtime.NumGoroutine") = false) (hb : fn.body = some c) : ∀ args w,(callFunc f args).run Tryz.prog w = .ok (.enter f args) w := Go.MuLone.run_callFunc_enter hf hn hb
section
variable [Dr]
theorem cmp_isNaN_int.ok:HdlOk Tryz.prog 123 (hdl [(false,(.int .i64))] [.sl 0 false .bool] (fun y=>cmp_isNaN_int.f y)):=
  hdl_ok [] [] _ _ _ Tryz.func123 rfl (by kernel_rfl) (by kernel_rfl) (fun y=>by kernel_rfl)
noncomputable def cmp_isNaN_int.h:Hnd Tryz.prog:={f:=123,h:=_,ok:=cmp_isNaN_int.ok,ent:=ent Tryz.func123 (by kernel_rfl) rfl,v:=some (hdlV _ _ _),vok:=by intro g h;obtain rfl:=Option.some.inj h;exact hdlV_ok (by kernel_rfl) cmp_isNaN_int.ok,c:=true,cok:=by intro _ g h;obtain rfl:=Option.some.inj h;exact hdlVC_ok (by kernel_rfl) (by kernel_rfl) cmp_isNaN_int.ok}

theorem cmp_Compare_int.ok:HdlOk Tryz.prog 88 (hdl [(false,(.int .i64)),(false,(.int .i64))] [.sl 0 false (.int .i64)] (fun y=>cmp_Compare_int.f y.1 y.2)):=
  hdl_ok [cmp_isNaN_int.h] [] _ _ _ Tryz.func88 rfl (by kernel_rfl) (by kernel_rfl) (fun y=>by kernel_rfl)
noncomputable def cmp_Compare_int.h:Hnd Tryz.prog:={f:=88,h:=_,ok:=cmp_Compare_int.ok,ent:=ent Tryz.func88 (by kernel_rfl) rfl,v:=some (hdlV _ _ _),vok:=by intro g h;obtain rfl:=Option.some.inj h;exact hdlV_ok (by kernel_rfl) cmp_Compare_int.ok,c:=true,cok:=by intro _ g h;obtain rfl:=Option.some.inj h;exact hdlVC_ok (by kernel_rfl) (by kernel_rfl) cmp_Compare_int.ok}

theorem cmp_Or_int.ok:HdlOk Tryz.prog 87 (hdl [(false,(.slice (.int .i64)))] [.sl 0 false (.int .i64)] (fun y=>cmp_Or_int.f y)):=
  hdl_ok [] [⟨0,3,[.sl 8 false (.int .i64)],[(.ret,[.sl 2 false (.int .i64)]),(.exit 0,[])],0⟩] _ _ _ Tryz.func87 rfl (by kernel_rfl) (by kernel_rfl) (fun y=>by kernel_rfl)
noncomputable def cmp_Or_int.h:Hnd Tryz.prog:={f:=87,h:=_,ok:=cmp_Or_int.ok,ent:=ent Tryz.func87 (by kernel_rfl) rfl,v:=some (hdlV _ _ _),vok:=by intro g h;obtain rfl:=Option.some.inj h;exact hdlV_ok (by kernel_rfl) cmp_Or_int.ok}

noncomputable def entry_Account_order.h:Hnd Tryz.prog:={f:=53,h:=_,ok:=inlR_ok [cmp_Or_int.h,cmp_Compare_int.h] [] 2 Tryz.func53 rfl,ent:=ent Tryz.func53 (by kernel_rfl) rfl}

theorem entry_Make_1.ok:HdlOk Tryz.prog 52 (hdl [(true,(.pair (.pair (.int .i64) (.pair (.int .i64) (.int .i64))) (.int .i64))),(true,(.pair (.pair (.int .i64) (.pair (.int .i64) (.int .i64))) (.int .i64)))] [.sl 0 false (.int .i64)] (fun y=>entry_Make_1.f y.1 y.2)):=
  hdl_ok [entry_Account_order.h] [] _ _ _ Tryz.func52 rfl (by kernel_rfl) (by kernel_rfl) (fun y=>by kernel_rfl)
noncomputable def entry_Make_1.h:Hnd Tryz.prog:={f:=52,h:=_,ok:=entry_Make_1.ok,ent:=ent Tryz.func52 (by kernel_rfl) rfl,v:=some (hdlV _ _ _),vok:=by intro g h;obtain rfl:=Option.some.inj h;exact hdlV_ok (by kernel_rfl) entry_Make_1.ok,c:=true,cok:=by intro _ g h;obtain rfl:=Option.some.inj h;exact hdlVC_ok (by kernel_rfl) (by kernel_rfl) entry_Make_1.ok}

theorem usage_Row_order.ok:HdlOk Tryz.prog 138 (hdl [(true,(.pair (.int .i64) (.pair (.int .i64) (.pair (.int .i64) (.pair (.int .i64) (.pair (.int .i64) (.int .i64))))))),(true,(.pair (.int .i64) (.pair (.int .i64) (.pair (.int .i64) (.pair (.int .i64) (.pair (.int .i64) (.int .i64)))))))] [.sl 0 false (.int .i64)] (fun y=>usage_Row_order.f y.1 y.2)):=
  hdl_ok [cmp_Or_int.h,cmp_Compare_int.h] [] _ _ _ Tryz.func138 rfl (by kernel_rfl) (by kernel_rfl) (fun y=>by kernel_rfl)
noncomputable def usage_Row_order.h:Hnd Tryz.prog:={f:=138,h:=_,ok:=usage_Row_order.ok,ent:=ent Tryz.func138 (by kernel_rfl) rfl,v:=some (hdlV _ _ _),vok:=by intro g h;obtain rfl:=Option.some.inj h;exact hdlV_ok (by kernel_rfl) usage_Row_order.ok,c:=true,cok:=by intro _ g h;obtain rfl:=Option.some.inj h;exact hdlVC_ok (by kernel_rfl) (by kernel_rfl) usage_Row_order.ok}

theorem tier_Merge_1.ok:HdlOk Tryz.prog 132 (hdl [(true,(.pair (.int .i64) (.pair (.int .i64) (.int .i64)))),(true,(.pair (.int .i64) (.pair (.int .i64) (.int .i64))))] [.sl 0 false (.int .i64)] (fun y=>tier_Merge_1.f y.1 y.2)):=
  hdl_ok [cmp_Or_int.h,cmp_Compare_int.h] [] _ _ _ Tryz.func132 rfl (by kernel_rfl) (by kernel_rfl) (fun y=>by kernel_rfl)
noncomputable def tier_Merge_1.h:Hnd Tryz.prog:={f:=132,h:=_,ok:=tier_Merge_1.ok,ent:=ent Tryz.func132 (by kernel_rfl) rfl,v:=some (hdlV _ _ _),vok:=by intro g h;obtain rfl:=Option.some.inj h;exact hdlV_ok (by kernel_rfl) tier_Merge_1.ok,c:=true,cok:=by intro _ g h;obtain rfl:=Option.some.inj h;exact hdlVC_ok (by kernel_rfl) (by kernel_rfl) tier_Merge_1.ok}
end
instance :Dr:=⟨False⟩
noncomputable def sort51.h:Hnd Tryz.prog:={f:=51,h:=sortHdl 52 (.pair (.pair (.int .i64) (.pair (.int .i64) (.int .i64))) (.int .i64)) entry_Make_1.f,ok:=sort_ok (T:=(.pair (.pair (.int .i64) (.pair (.int .i64) (.int .i64))) (.int .i64))) (f:=entry_Make_1.f) sortL (by kernel_rfl) (@hdlV_ok ⟨True⟩ _ _ _ _ _ (by kernel_rfl) (@entry_Make_1.ok ⟨True⟩)) (ent Tryz.func52 (by kernel_rfl) rfl) (by kernel_rfl) (by kernel_rfl),ent:=ent Tryz.func51 (by kernel_rfl) rfl}

theorem entry_kind.ok:HdlOk Tryz.prog 47 (hdl [(false,(.int .i64))] [.sl 0 false .bool] (fun y=>entry_kind.f y)):=
  hdl_ok [] [⟨3,1,[],[(.norm,[.sl 2 false .bool])],0⟩] _ _ _ Tryz.func47 rfl (by kernel_rfl) (by kernel_rfl) (fun y=>by kernel_rfl)
noncomputable def entry_kind.h:Hnd Tryz.prog:={f:=47,h:=_,ok:=entry_kind.ok,ent:=ent Tryz.func47 (by kernel_rfl) rfl,v:=some (hdlV _ _ _),vok:=by intro g h;obtain rfl:=Option.some.inj h;exact hdlV_ok (by kernel_rfl) entry_kind.ok,c:=true,cok:=by intro _ g h;obtain rfl:=Option.some.inj h;exact hdlVC_ok (by kernel_rfl) (by kernel_rfl) entry_kind.ok}

theorem path.ok:HdlOk Tryz.prog 48 (hdl [(false,(.slice (.int .i64)))] [.sl 0 false .bool] (fun y=>path.f y)):=Sv.path_ok (fun h=>h)
noncomputable def path.h:Hnd Tryz.prog:={f:=48,h:=_,ok:=path.ok,ent:=ent Tryz.func48 (by kernel_rfl) rfl,v:=some (hdlV _ _ _),vok:=by intro g h;obtain rfl:=Option.some.inj h;exact hdlV_ok (by kernel_rfl) path.ok}

theorem entry_on.ok:HdlOk Tryz.prog 50 (hdl [(false,(.int .i64)),(false,(.int .i64)),(false,(.int .i64))] [.sl 0 true (.pair (.int .i64) (.pair (.int .i64) (.int .i64)))] (fun y=>entry_on.f y.1 y.2.1 y.2.2)):=
  hdl_ok [] [] _ _ _ Tryz.func50 rfl (by kernel_rfl) (by kernel_rfl) (fun y=>by kernel_rfl)
noncomputable def entry_on.h:Hnd Tryz.prog:={f:=50,h:=_,ok:=entry_on.ok,ent:=ent Tryz.func50 (by kernel_rfl) rfl,v:=some (hdlV _ _ _),vok:=by intro g h;obtain rfl:=Option.some.inj h;exact hdlV_ok (by kernel_rfl) entry_on.ok,c:=true,cok:=by intro _ g h;obtain rfl:=Option.some.inj h;exact hdlVC_ok (by kernel_rfl) (by kernel_rfl) entry_on.ok}

theorem entry_sides.ok:HdlOk Tryz.prog 49 (hdl [(false,(.int .i64))] [.sl 0 false (.int .i64),.sl 1 false (.int .i64)] (fun y=>entry_sides.f y)):=
  hdl_ok [] [] _ _ _ Tryz.func49 rfl (by kernel_rfl) (by kernel_rfl) (fun y=>by kernel_rfl)
noncomputable def entry_sides.h:Hnd Tryz.prog:={f:=49,h:=_,ok:=entry_sides.ok,ent:=ent Tryz.func49 (by kernel_rfl) rfl,v:=some (hdlV _ _ _),vok:=by intro g h;obtain rfl:=Option.some.inj h;exact hdlV_ok (by kernel_rfl) entry_sides.ok,c:=true,cok:=by intro _ g h;obtain rfl:=Option.some.inj h;exact hdlVC_ok (by kernel_rfl) (by kernel_rfl) entry_sides.ok}

theorem entry_Account_right.ok:HdlOk Tryz.prog 124 (hdl [(true,(.pair (.int .i64) (.pair (.int .i64) (.int .i64))))] [.sl 0 false .bool] (fun y=>entry_Account_right.f y)):=
  hdl_ok [] [⟨3,1,[],[(.norm,[.sl 3 false .bool])],0⟩,⟨3,4,[],[(.norm,[.sl 2 false .bool])],0⟩,⟨3,8,[],[(.norm,[.sl 2 false .bool])],0⟩,⟨3,10,[],[(.norm,[.sl 2 false .bool])],0⟩] _ _ _ Tryz.func124 rfl (by kernel_rfl) (by kernel_rfl) (fun y=>by kernel_rfl)
noncomputable def entry_Account_right.h:Hnd Tryz.prog:={f:=124,h:=_,ok:=entry_Account_right.ok,ent:=ent Tryz.func124 (by kernel_rfl) rfl,v:=some (hdlV _ _ _),vok:=by intro g h;obtain rfl:=Option.some.inj h;exact hdlV_ok (by kernel_rfl) entry_Account_right.ok,c:=true,cok:=by intro _ g h;obtain rfl:=Option.some.inj h;exact hdlVC_ok (by kernel_rfl) (by kernel_rfl) entry_Account_right.ok}

theorem entry_Entry_leg.ok:HdlOk Tryz.prog 89 (hdl [(true,(.pair (.int .i64) (.slice (.pair (.pair (.int .i64) (.pair (.int .i64) (.int .i64))) (.int .i64))))),(false,(.int .i64))] [.sl 0 false (.int .i64)] (fun y=>entry_Entry_leg.f y.1 y.2)):=
  hdl_ok [entry_Account_order.h,entry_Account_right.h] [⟨3,4,[],[(.norm,[.sl 16 false .bool])],0⟩,⟨3,6,[],[(.norm,[.sl 30 false .bool])],0⟩] _ _ _ Tryz.func89 rfl (by kernel_rfl) (by kernel_rfl) (fun y=>by kernel_rfl)
noncomputable def entry_Entry_leg.h:Hnd Tryz.prog:={f:=89,h:=_,ok:=entry_Entry_leg.ok,ent:=ent Tryz.func89 (by kernel_rfl) rfl,v:=some (hdlV _ _ _),vok:=by intro g h;obtain rfl:=Option.some.inj h;exact hdlV_ok (by kernel_rfl) entry_Entry_leg.ok}

theorem entry_Check.ok:HdlOk Tryz.prog 54 (hdl [(true,(.pair (.int .i64) (.slice (.pair (.pair (.int .i64) (.pair (.int .i64) (.int .i64))) (.int .i64)))))] [.sl 0 false (.int .i64)] (fun y=>entry_Check.f y)):=
  hdl_ok [entry_kind.h,entry_Entry_leg.h] [⟨3,3,[],[(.norm,[.sl 12 false .bool])],0⟩,⟨0,7,[.sl 3 false (.int .i64),.sl 26 false (.int .i64)],[(.ret,[.sl 2 false (.int .i64)]),(.exit 1,[.sl 3 false (.int .i64)])],0⟩] _ _ _ Tryz.func54 rfl (by kernel_rfl) (by kernel_rfl) (fun y=>by kernel_rfl)
noncomputable def entry_Check.h:Hnd Tryz.prog:={f:=54,h:=_,ok:=entry_Check.ok,ent:=ent Tryz.func54 (by kernel_rfl) rfl,v:=some (hdlV _ _ _),vok:=by intro g h;obtain rfl:=Option.some.inj h;exact hdlV_ok (by kernel_rfl) entry_Check.ok}

theorem entry_Make.ok:HdlOk Tryz.prog 20 (hdl [(false,(.int .i64)),(false,(.int .i64)),(false,(.slice (.int .i64))),(false,(.int .i64))] [.sl 0 true (.pair (.int .i64) (.slice (.pair (.pair (.int .i64) (.pair (.int .i64) (.int .i64))) (.int .i64)))),.sl 1 false (.int .i64)] (fun y=>entry_Make.f y.1 y.2.1 y.2.2.1 y.2.2.2)):=
  hdl_ok [entry_kind.h,path.h,entry_sides.h,entry_on.h,sort51.h,entry_Check.h] [⟨3,3,[],[(.norm,[.sl 21 false .bool])],0⟩,⟨1,42,[.opn 1 59 2,.cl 1 0 (.int .i64),.dtc 1 1 (.row (.pair (.pair (.int .i64) (.pair (.int .i64) (.int .i64))) (.int .i64)) 134)],[(.norm,[.opn 1 59 2,.cl 1 0 (.int .i64),.dtc 1 1 (.row (.pair (.pair (.int .i64) (.pair (.int .i64) (.int .i64))) (.int .i64)) 134)])],0⟩,⟨0,10,[.sl 56 false (.int .i64),.opn 1 59 2,.cl 1 0 (.int .i64),.dtc 1 1 (.row (.pair (.pair (.int .i64) (.pair (.int .i64) (.int .i64))) (.int .i64)) 134)],[(.exit 1,[.opn 1 59 2,.cl 1 0 (.int .i64),.dtc 1 1 (.row (.pair (.pair (.int .i64) (.pair (.int .i64) (.int .i64))) (.int .i64)) 134)])],0⟩,⟨1,61,[.opn 1 59 2,.cl 1 0 (.int .i64),.dtc 1 1 (.row (.pair (.pair (.int .i64) (.pair (.int .i64) (.int .i64))) (.int .i64)) 134)],[(.norm,[.opn 1 59 2,.cl 1 0 (.int .i64),.dtc 1 1 (.row (.pair (.pair (.int .i64) (.pair (.int .i64) (.int .i64))) (.int .i64)) 134)])],0⟩] _ _ _ Tryz.func20 rfl (by kernel_rfl) (by kernel_rfl) (fun y=>by kernel_rfl)
noncomputable def entry_Make.h:Hnd Tryz.prog:={f:=20,h:=_,ok:=entry_Make.ok,ent:=ent Tryz.func20 (by kernel_rfl) rfl,v:=some (hdlV _ _ _),vok:=by intro g h;obtain rfl:=Option.some.inj h;exact hdlV_ok (by kernel_rfl) entry_Make.ok}

theorem slices_Clone_entry_Leg.ok:HdlOk Tryz.prog 90 (hdl [(false,(.slice (.pair (.pair (.int .i64) (.pair (.int .i64) (.int .i64))) (.int .i64))))] [.dts 0 (.row (.pair (.pair (.int .i64) (.pair (.int .i64) (.int .i64))) (.int .i64)) 134)] (fun y=>slices_Clone_entry_Leg.f y)):=
  hdl_ok [] [] _ _ _ Tryz.func90 rfl (by kernel_rfl) (by kernel_rfl) (fun y=>by kernel_rfl)
noncomputable def slices_Clone_entry_Leg.h:Hnd Tryz.prog:={f:=90,h:=_,ok:=slices_Clone_entry_Leg.ok,ent:=ent Tryz.func90 (by kernel_rfl) rfl}

theorem journal_copied.ok:HdlOk Tryz.prog 55 (hdl [(true,(.pair (.int .i64) (.slice (.pair (.pair (.int .i64) (.pair (.int .i64) (.int .i64))) (.int .i64)))))] [.sl 0 true (.pair (.int .i64) (.slice (.pair (.pair (.int .i64) (.pair (.int .i64) (.int .i64))) (.int .i64))))] (fun y=>journal_copied.f y)):=
  hdl_ok [slices_Clone_entry_Leg.h] [] _ _ _ Tryz.func55 rfl (by kernel_rfl) (by kernel_rfl) (fun y=>by kernel_rfl)
noncomputable def journal_copied.h:Hnd Tryz.prog:={f:=55,h:=_,ok:=journal_copied.ok,ent:=ent Tryz.func55 (by kernel_rfl) rfl,v:=some (hdlV _ _ _),vok:=by intro g h;obtain rfl:=Option.some.inj h;exact hdlV_ok (by kernel_rfl) journal_copied.ok}

theorem slices_Index___int_int.ok:HdlOk Tryz.prog 91 (hdl [(false,(.slice (.int .i64))),(false,(.int .i64))] [.sl 0 false (.int .i64)] (fun y=>slices_Index___int_int.f y.1 y.2)):=
  hdl_ok [] [⟨0,2,[.sl 8 false (.int .i64)],[(.ret,[.sl 4 false (.int .i64)]),(.exit 0,[])],0⟩] _ _ _ Tryz.func91 rfl (by kernel_rfl) (by kernel_rfl) (fun y=>by kernel_rfl)
noncomputable def slices_Index___int_int.h:Hnd Tryz.prog:={f:=91,h:=_,ok:=slices_Index___int_int.ok,ent:=ent Tryz.func91 (by kernel_rfl) rfl,v:=some (hdlV _ _ _),vok:=by intro g h;obtain rfl:=Option.some.inj h;exact hdlV_ok (by kernel_rfl) slices_Index___int_int.ok}

theorem slices_Contains___int_int.ok:HdlOk Tryz.prog 56 (hdl [(false,(.slice (.int .i64))),(false,(.int .i64))] [.sl 0 false .bool] (fun y=>slices_Contains___int_int.f y.1 y.2)):=
  hdl_ok [slices_Index___int_int.h] [] _ _ _ Tryz.func56 rfl (by kernel_rfl) (by kernel_rfl) (fun y=>by kernel_rfl)
noncomputable def slices_Contains___int_int.h:Hnd Tryz.prog:={f:=56,h:=_,ok:=slices_Contains___int_int.ok,ent:=ent Tryz.func56 (by kernel_rfl) rfl,v:=some (hdlV _ _ _),vok:=by intro g h;obtain rfl:=Option.some.inj h;exact hdlV_ok (by kernel_rfl) slices_Contains___int_int.ok}

theorem journal_New.ok:HdlOk Tryz.prog 18 (hdl [] [.dts 0 (.ptr 125 (.pair (.row (.pair (.pair (.int .i64) (.slice (.pair (.pair (.int .i64) (.pair (.int .i64) (.int .i64))) (.int .i64)))) (.int .i64)) 141) (.pair (.flat (.int .i64)) (.pair (.map ⟨131,3,true,(.pair (.int .i64) (.pair (.int .i64) (.int .i64))),false,(.int .i64)⟩) (.rowD (.map ⟨131,3,true,(.pair (.int .i64) (.pair (.int .i64) (.int .i64))),false,(.int .i64)⟩) 121)))))] (fun y=>journal_New.f)):=
  hdl_ok [] [] _ _ _ Tryz.func18 rfl (by kernel_rfl) (by kernel_rfl) (fun y=>by kernel_rfl)
noncomputable def journal_New.h:Hnd Tryz.prog:={f:=18,h:=_,ok:=journal_New.ok,ent:=ent Tryz.func18 (by kernel_rfl) rfl}

theorem journal_Journal_Post.ok:HdlOk Tryz.prog 21 (hdlP 125 (.pair (.row (.pair (.pair (.int .i64) (.slice (.pair (.pair (.int .i64) (.pair (.int .i64) (.int .i64))) (.int .i64)))) (.int .i64)) 141) (.pair (.flat (.int .i64)) (.pair (.map ⟨131,3,true,(.pair (.int .i64) (.pair (.int .i64) (.int .i64))),false,(.int .i64)⟩) (.rowD (.map ⟨131,3,true,(.pair (.int .i64) (.pair (.int .i64) (.int .i64))),false,(.int .i64)⟩) 121)))) [(true,(.pair (.int .i64) (.slice (.pair (.pair (.int .i64) (.pair (.int .i64) (.int .i64))) (.int .i64)))))] [(false,(.flat (.int .i64))),(false,(.flat (.int .i64)))] (fun s y=>journal_Journal_Post.f s y)):=
  hdlP_ok [entry_Check.h,journal_copied.h] [⟨0,9,[.sl 28 false (.int .i64)],[(.ret,[.sl 4 false (.int .i64),.sl 5 false (.int .i64)]),(.exit 0,[])],0⟩,⟨3,12,[],[(.norm,[.sl 47 false .bool])],0⟩,⟨0,16,[.sl 52 false (.int .i64),.mp 2 ⟨131,3,true,(.pair (.int .i64) (.pair (.int .i64) (.int .i64))),false,(.int .i64)⟩,.rwD 3 (.map ⟨131,3,true,(.pair (.int .i64) (.pair (.int .i64) (.int .i64))),false,(.int .i64)⟩) 121],[(.exit 2,[.mp 2 ⟨131,3,true,(.pair (.int .i64) (.pair (.int .i64) (.int .i64))),false,(.int .i64)⟩,.rwD 3 (.map ⟨131,3,true,(.pair (.int .i64) (.pair (.int .i64) (.int .i64))),false,(.int .i64)⟩) 121])],0⟩] _ _ _ _ _ Tryz.func21 rfl (fun s y=>by kernel_rfl)
noncomputable def journal_Journal_Post.h:Hnd Tryz.prog:={f:=21,h:=_,ok:=orH_ok (p:=nilP) (inlR_ok [entry_Check.h,journal_copied.h] [] 2 Tryz.func21 rfl) journal_Journal_Post.ok,ent:=ent Tryz.func21 (by kernel_rfl) rfl}

theorem journal_Journal_Close.ok:HdlOk Tryz.prog 19 (hdlP 125 (.pair (.row (.pair (.pair (.int .i64) (.slice (.pair (.pair (.int .i64) (.pair (.int .i64) (.int .i64))) (.int .i64)))) (.int .i64)) 141) (.pair (.flat (.int .i64)) (.pair (.map ⟨131,3,true,(.pair (.int .i64) (.pair (.int .i64) (.int .i64))),false,(.int .i64)⟩) (.rowD (.map ⟨131,3,true,(.pair (.int .i64) (.pair (.int .i64) (.int .i64))),false,(.int .i64)⟩) 121)))) [] [(false,(.flat (.int .i64))),(false,(.flat (.int .i64)))] (fun s y=>journal_Journal_Close.f s)):=
  hdlP_ok [] [] _ _ _ _ _ Tryz.func19 rfl (fun s y=>by kernel_rfl)
noncomputable def journal_Journal_Close.h:Hnd Tryz.prog:={f:=19,h:=_,ok:=orH_ok (p:=nilP) (inlR_ok [] [] 1 Tryz.func19 rfl) journal_Journal_Close.ok,ent:=ent Tryz.func19 (by kernel_rfl) rfl}

theorem journal_Journal_Period.ok:HdlOk Tryz.prog 22 (hdlP 125 (.pair (.row (.pair (.pair (.int .i64) (.slice (.pair (.pair (.int .i64) (.pair (.int .i64) (.int .i64))) (.int .i64)))) (.int .i64)) 141) (.pair (.flat (.int .i64)) (.pair (.map ⟨131,3,true,(.pair (.int .i64) (.pair (.int .i64) (.int .i64))),false,(.int .i64)⟩) (.rowD (.map ⟨131,3,true,(.pair (.int .i64) (.pair (.int .i64) (.int .i64))),false,(.int .i64)⟩) 121)))) [] [(false,(.flat (.int .i64)))] (fun s y=>journal_Journal_Period.f s)):=
  hdlP_ok [] [] _ _ _ _ _ Tryz.func22 rfl (fun s y=>by kernel_rfl)
noncomputable def journal_Journal_Period.h:Hnd Tryz.prog:={f:=22,h:=_,ok:=orH_ok (p:=nilP) (inlR_ok [] [] 1 Tryz.func22 rfl) journal_Journal_Period.ok,ent:=ent Tryz.func22 (by kernel_rfl) rfl}

theorem journal_Journal_Moved.ok:HdlOk Tryz.prog 57 (hdlP 125 (.pair (.row (.pair (.pair (.int .i64) (.slice (.pair (.pair (.int .i64) (.pair (.int .i64) (.int .i64))) (.int .i64)))) (.int .i64)) 141) (.pair (.flat (.int .i64)) (.pair (.map ⟨131,3,true,(.pair (.int .i64) (.pair (.int .i64) (.int .i64))),false,(.int .i64)⟩) (.rowD (.map ⟨131,3,true,(.pair (.int .i64) (.pair (.int .i64) (.int .i64))),false,(.int .i64)⟩) 121)))) [(true,(.pair (.int .i64) (.pair (.int .i64) (.int .i64)))),(false,(.int .i64))] [(false,(.flat (.int .i64)))] (fun s y=>journal_Journal_Moved.f s y.1 y.2)):=
  hdlP_ok [] [⟨3,1,[],[(.norm,[.sl 21 false .bool])],0⟩] _ _ _ _ _ Tryz.func57 rfl (fun s y=>by kernel_rfl)
noncomputable def journal_Journal_Moved.h:Hnd Tryz.prog:={f:=57,h:=_,ok:=orH_ok (p:=nilP) (inlR_ok [] [] 3 Tryz.func57 rfl) journal_Journal_Moved.ok,ent:=ent Tryz.func57 (by kernel_rfl) rfl}

theorem arith_size.ok:HdlOk Tryz.prog 106 (hdl [(false,(.int .i64))] [.sl 0 false (.int .u64)] (fun y=>arith_size.f y)):=
  hdl_ok [] [] _ _ _ Tryz.func106 rfl (by kernel_rfl) (by kernel_rfl) (fun y=>by kernel_rfl)
noncomputable def arith_size.h:Hnd Tryz.prog:={f:=106,h:=_,ok:=arith_size.ok,ent:=ent Tryz.func106 (by kernel_rfl) rfl,v:=some (hdlV _ _ _),vok:=by intro g h;obtain rfl:=Option.some.inj h;exact hdlV_ok (by kernel_rfl) arith_size.ok,c:=true,cok:=by intro _ g h;obtain rfl:=Option.some.inj h;exact hdlVC_ok (by kernel_rfl) (by kernel_rfl) arith_size.ok}

theorem bits_Mul64.ok:HdlOk Tryz.prog 105 (hdl [(false,(.int .u64)),(false,(.int .u64))] [.sl 0 false (.int .u64),.sl 1 false (.int .u64)] (fun y=>bits_Mul64.f y.1 y.2)):=
  hdl_ok [] [] _ _ _ Tryz.func105 rfl (by kernel_rfl) (by kernel_rfl) (fun y=>by kernel_rfl)
noncomputable def bits_Mul64.h:Hnd Tryz.prog:={f:=105,h:=_,ok:=bits_Mul64.ok,ent:=ent Tryz.func105 (by kernel_rfl) rfl,v:=some (hdlV _ _ _),vok:=by intro g h;obtain rfl:=Option.some.inj h;exact hdlV_ok (by kernel_rfl) bits_Mul64.ok,c:=true,cok:=by intro _ g h;obtain rfl:=Option.some.inj h;exact hdlVC_ok (by kernel_rfl) (by kernel_rfl) bits_Mul64.ok}

theorem arith_Mul.ok:HdlOk Tryz.prog 71 (hdl [(false,(.int .i64)),(false,(.int .i64))] [.sl 0 false (.int .i64),.sl 1 false .bool] (fun y=>arith_Mul.f y.1 y.2)):=
  hdl_ok [bits_Mul64.h,arith_size.h] [⟨3,5,[],[(.norm,[.sl 25 false .bool])],0⟩] _ _ _ Tryz.func71 rfl (by kernel_rfl) (by kernel_rfl) (fun y=>by kernel_rfl)
noncomputable def arith_Mul.h:Hnd Tryz.prog:={f:=71,h:=_,ok:=arith_Mul.ok,ent:=ent Tryz.func71 (by kernel_rfl) rfl,v:=some (hdlV _ _ _),vok:=by intro g h;obtain rfl:=Option.some.inj h;exact hdlV_ok (by kernel_rfl) arith_Mul.ok,c:=true,cok:=by intro _ g h;obtain rfl:=Option.some.inj h;exact hdlVC_ok (by kernel_rfl) (by kernel_rfl) arith_Mul.ok}

theorem arith_Sum.ok:HdlOk Tryz.prog 58 (hdl [(false,(.slice (.int .i64)))] [.sl 0 false (.int .i64),.sl 1 false .bool] (fun y=>arith_Sum.f y)):=
  hdl_ok [] [⟨0,3,[.sl 4 false (.int .u64),.sl 5 false (.int .u64),.sl 11 false (.int .i64)],[(.exit 0,[.sl 4 false (.int .u64),.sl 5 false (.int .u64)])],0⟩] _ _ _ Tryz.func58 rfl (by kernel_rfl) (by kernel_rfl) (fun y=>by kernel_rfl)
noncomputable def arith_Sum.h:Hnd Tryz.prog:={f:=58,h:=_,ok:=arith_Sum.ok,ent:=ent Tryz.func58 (by kernel_rfl) rfl,v:=some (hdlV _ _ _),vok:=by intro g h;obtain rfl:=Option.some.inj h;exact hdlV_ok (by kernel_rfl) arith_Sum.ok}

theorem usage_within.ok:HdlOk Tryz.prog 97 (hdl [(false,(.int .i64)),(false,(.int .i64)),(false,(.int .i64))] [.sl 0 false .bool] (fun y=>usage_within.f y.1 y.2.1 y.2.2)):=
  hdl_ok [] [⟨3,1,[],[(.norm,[.sl 6 false .bool])],0⟩] _ _ _ Tryz.func97 rfl (by kernel_rfl) (by kernel_rfl) (fun y=>by kernel_rfl)
noncomputable def usage_within.h:Hnd Tryz.prog:={f:=97,h:=_,ok:=usage_within.ok,ent:=ent Tryz.func97 (by kernel_rfl) rfl,v:=some (hdlV _ _ _),vok:=by intro g h;obtain rfl:=Option.some.inj h;exact hdlV_ok (by kernel_rfl) usage_within.ok,c:=true,cok:=by intro _ g h;obtain rfl:=Option.some.inj h;exact hdlVC_ok (by kernel_rfl) (by kernel_rfl) usage_within.ok}

theorem usage_Row_place.ok:HdlOk Tryz.prog 95 (hdl [(true,(.pair (.int .i64) (.pair (.int .i64) (.pair (.int .i64) (.pair (.int .i64) (.pair (.int .i64) (.int .i64)))))))] [.sl 0 false .bool] (fun y=>usage_Row_place.f y)):=
  hdl_ok [usage_within.h] [⟨3,1,[],[(.norm,[.sl 2 false .bool])],0⟩] _ _ _ Tryz.func95 rfl (by kernel_rfl) (by kernel_rfl) (fun y=>by kernel_rfl)
noncomputable def usage_Row_place.h:Hnd Tryz.prog:={f:=95,h:=_,ok:=usage_Row_place.ok,ent:=ent Tryz.func95 (by kernel_rfl) rfl,v:=some (hdlV _ _ _),vok:=by intro g h;obtain rfl:=Option.some.inj h;exact hdlV_ok (by kernel_rfl) usage_Row_place.ok,c:=true,cok:=by intro _ g h;obtain rfl:=Option.some.inj h;exact hdlVC_ok (by kernel_rfl) (by kernel_rfl) usage_Row_place.ok}

theorem usage_Row_key.ok:HdlOk Tryz.prog 66 (hdl [(true,(.pair (.int .i64) (.pair (.int .i64) (.pair (.int .i64) (.pair (.int .i64) (.pair (.int .i64) (.int .i64)))))))] [.sl 0 true (.pair (.int .i64) (.pair (.int .i64) (.pair (.int .i64) (.pair (.int .i64) (.pair (.int .i64) (.int .i64))))))] (fun y=>usage_Row_key.f y)):=
  hdl_ok [] [] _ _ _ Tryz.func66 rfl (by kernel_rfl) (by kernel_rfl) (fun y=>by kernel_rfl)
noncomputable def usage_Row_key.h:Hnd Tryz.prog:={f:=66,h:=_,ok:=usage_Row_key.ok,ent:=ent Tryz.func66 (by kernel_rfl) rfl,v:=some (hdlV _ _ _),vok:=by intro g h;obtain rfl:=Option.some.inj h;exact hdlV_ok (by kernel_rfl) usage_Row_key.ok,c:=true,cok:=by intro _ g h;obtain rfl:=Option.some.inj h;exact hdlVC_ok (by kernel_rfl) (by kernel_rfl) usage_Row_key.ok}

noncomputable def bld107.h:Hnd Tryz.prog:={f:=107,h:=ccHdl 100,ok:=cc_ok ccL ccL_x rfl rfl,ent:=ent Tryz.func107 (by kernel_rfl) rfl}

noncomputable def bld37.h:Hnd Tryz.prog:={f:=37,h:=bstrHdl 100 5,ok:=bstr_ok (fun h=>h) bstrL bstrL_x rfl rfl rfl,ent:=ent Tryz.func37 (by kernel_rfl) rfl}

noncomputable def bld142.h:Hnd Tryz.prog:={f:=142,h:=itoaHdl,ok:=itoa_ok itoaL rfl,ent:=ent Tryz.func142 (by kernel_rfl) rfl}

theorem strconv_Itoa.ok:HdlOk Tryz.prog 108 (hdl [(false,(.int .i64))] [.sl 0 false .str] (fun y=>strconv_Itoa.f y)):=
  hdl_ok [bld142.h] [] _ _ _ Tryz.func108 rfl (by kernel_rfl) (by kernel_rfl) (fun y=>by kernel_rfl)
noncomputable def strconv_Itoa.h:Hnd Tryz.prog:={f:=108,h:=_,ok:=strconv_Itoa.ok,ent:=ent Tryz.func108 (by kernel_rfl) rfl,v:=some (hdlV _ _ _),vok:=by intro g h;obtain rfl:=Option.some.inj h;exact hdlV_ok (by kernel_rfl) strconv_Itoa.ok,c:=true,cok:=by intro _ g h;obtain rfl:=Option.some.inj h;exact hdlVC_ok (by kernel_rfl) (by kernel_rfl) strconv_Itoa.ok}

noncomputable def strings_Builder_WriteString.h:Hnd Tryz.prog:={f:=74,h:=_,ok:=inlR_ok [bld107.h] [] 2 Tryz.func74 rfl,ent:=ent Tryz.func74 (by kernel_rfl) rfl}

noncomputable def strconv_Itoa_75.h:Hnd Tryz.prog:={f:=75,h:=_,ok:=inlR_ok [strconv_Itoa.h] [] 1 Tryz.func75 rfl,ent:=ent Tryz.func75 (by kernel_rfl) rfl}

noncomputable def strings_Builder_WriteByte.h:Hnd Tryz.prog:={f:=76,h:=_,ok:=inlR_ok [bld107.h] [] 2 Tryz.func76 rfl,ent:=ent Tryz.func76 (by kernel_rfl) rfl}

noncomputable def invoice_say.h:Hnd Tryz.prog:={f:=36,h:=_,ok:=inlR_ok [strings_Builder_WriteString.h,strconv_Itoa_75.h,strings_Builder_WriteByte.h] [⟨0,1,[.sl 10 false (.int .i64),.opb 1 100 1,.dtc 1 1 (.row (.int .u8) 5)],[(.exit 0,[.opb 1 100 1,.dtc 1 1 (.row (.int .u8) 5)])],0⟩,⟨1,21,[.opb 1 100 1,.dtc 1 1 (.row (.int .u8) 5)],[(.norm,[.opb 1 100 1,.dtc 1 1 (.row (.int .u8) 5)])],0⟩] 3 Tryz.func36 rfl,ent:=ent Tryz.func36 (by kernel_rfl) rfl}

theorem invoice_Text.ok:HdlOk Tryz.prog 11 (hdl [(true,(.pair (.int .i64) (.pair (.int .i64) (.pair (.int .i64) (.pair (.slice (.pair (.int .i64) (.pair (.int .i64) (.pair (.int .i64) (.pair (.int .i64) (.pair (.int .i64) (.int .i64))))))) (.slice (.pair (.int .i64) (.int .i64))))))))] [.sl 0 false .str] (fun y=>invoice_Text.f y)):=
  hdl_ok [invoice_say.h,bld37.h] [⟨0,4,[.sl 18 false (.int .i64),.opb 1 100 1,.dtc 1 1 (.row (.int .u8) 5)],[(.exit 0,[.opb 1 100 1,.dtc 1 1 (.row (.int .u8) 5)])],0⟩,⟨0,9,[.sl 41 false (.int .i64),.opb 1 100 1,.dtc 1 1 (.row (.int .u8) 5)],[(.exit 2,[.opb 1 100 1,.dtc 1 1 (.row (.int .u8) 5)])],0⟩] _ _ _ Tryz.func11 rfl (by kernel_rfl) (by kernel_rfl) (fun y=>by kernel_rfl)
noncomputable def invoice_Text.h:Hnd Tryz.prog:={f:=11,h:=_,ok:=invoice_Text.ok,ent:=ent Tryz.func11 (by kernel_rfl) rfl,v:=some (hdlV _ _ _),vok:=by intro g h;obtain rfl:=Option.some.inj h;exact hdlV_ok (by kernel_rfl) invoice_Text.ok}

theorem tier_key.ok:HdlOk Tryz.prog 129 (hdl [(true,(.pair (.int .i64) (.pair (.int .i64) (.int .i64))))] [.sl 0 true (.pair (.int .i64) (.pair (.int .i64) (.int .i64)))] (fun y=>tier_key.f y)):=
  hdl_ok [] [] _ _ _ Tryz.func129 rfl (by kernel_rfl) (by kernel_rfl) (fun y=>by kernel_rfl)
noncomputable def tier_key.h:Hnd Tryz.prog:={f:=129,h:=_,ok:=tier_key.ok,ent:=ent Tryz.func129 (by kernel_rfl) rfl,v:=some (hdlV _ _ _),vok:=by intro g h;obtain rfl:=Option.some.inj h;exact hdlV_ok (by kernel_rfl) tier_key.ok,c:=true,cok:=by intro _ g h;obtain rfl:=Option.some.inj h;exact hdlVC_ok (by kernel_rfl) (by kernel_rfl) tier_key.ok}

noncomputable def slices_Grow_150.h:Hnd Tryz.prog:={f:=150,h:=growHdl (.pair (.int .i64) (.pair (.int .i64) (.int .i64))) 89,ok:=grow_ok (T:=(.pair (.int .i64) (.pair (.int .i64) (.int .i64)))) (fun h=>h) growL rfl rfl (by kernel_rfl),ent:=ent Tryz.func150 (by kernel_rfl) rfl}

noncomputable def sort131.h:Hnd Tryz.prog:={f:=131,h:=sortHdl 132 (.pair (.int .i64) (.pair (.int .i64) (.int .i64))) tier_Merge_1.f,ok:=sort_ok (T:=(.pair (.int .i64) (.pair (.int .i64) (.int .i64)))) (f:=tier_Merge_1.f) sortA (by kernel_rfl) (@hdlV_ok ⟨True⟩ _ _ _ _ _ (by kernel_rfl) (@tier_Merge_1.ok ⟨True⟩)) (ent Tryz.func132 (by kernel_rfl) rfl) (by kernel_rfl) (by kernel_rfl),ent:=ent Tryz.func131 (by kernel_rfl) rfl}

theorem tier_Blocks.ok:HdlOk Tryz.prog 130 (hdl [(false,(.slice (.pair (.int .i64) (.pair (.int .i64) (.int .i64)))))] [.sl 0 false (.int .i64),.sl 1 false .bool] (fun y=>tier_Blocks.f y)):=
  hdl_ok [arith_Sum.h] [⟨0,3,[.dts 4 (.row (.int .i64) 3),.sl 9 false (.int .i64)],[(.exit 0,[.dts 4 (.row (.int .i64) 3)])],0⟩] _ _ _ Tryz.func130 rfl (by kernel_rfl) (by kernel_rfl) (fun y=>by kernel_rfl)
noncomputable def tier_Blocks.h:Hnd Tryz.prog:={f:=130,h:=_,ok:=tier_Blocks.ok,ent:=ent Tryz.func130 (by kernel_rfl) rfl,v:=some (hdlV _ _ _),vok:=by intro g h;obtain rfl:=Option.some.inj h;exact hdlV_ok (by kernel_rfl) tier_Blocks.ok}

noncomputable def slices_Concat_api_Line.h:Hnd Tryz.prog:={f:=128,h:=_,ok:=inlR_ok [slices_Grow_150.h] [⟨3,5,[],[(.norm,[.sl 3 false (.int .i64)])],0⟩,⟨0,11,[],[],3⟩,⟨0,3,[],[],3⟩] 1 Tryz.func128 rfl,ent:=ent Tryz.func128 (by kernel_rfl) rfl}

theorem tier_Merge.ok:HdlOk Tryz.prog 96 (hdl [(false,(.slice (.pair (.int .i64) (.pair (.int .i64) (.int .i64))))),(false,(.slice (.pair (.int .i64) (.pair (.int .i64) (.int .i64)))))] [.dts 0 (.row (.pair (.int .i64) (.pair (.int .i64) (.int .i64))) 89),.sl 1 false .bool] (fun y=>tier_Merge.f y.1 y.2)):=
  hdl_ok [slices_Concat_api_Line.h,tier_key.h,tier_Blocks.h,sort131.h] [⟨0,3,[.sl 20 false (.int .i64),.mpD 0 ⟨89,90,true,(.pair (.int .i64) (.pair (.int .i64) (.int .i64))),false,.bool⟩ (.row (.pair (.int .i64) (.pair (.int .i64) (.int .i64))) 89)],[(.exit 0,[.mpD 0 ⟨89,90,true,(.pair (.int .i64) (.pair (.int .i64) (.int .i64))),false,.bool⟩ (.row (.pair (.int .i64) (.pair (.int .i64) (.int .i64))) 89)])],0⟩,⟨5,9,[.dts 9 (.row (.pair (.int .i64) (.pair (.int .i64) (.int .i64))) 89)],[(.ret,[.dts 4 (.row (.pair (.int .i64) (.pair (.int .i64) (.int .i64))) 89),.sl 5 false .bool]),(.exit 2,[.dts 9 (.row (.pair (.int .i64) (.pair (.int .i64) (.int .i64))) 89)])],0⟩] _ _ _ Tryz.func96 rfl (by kernel_rfl) (by kernel_rfl) (fun y=>by kernel_rfl)
noncomputable def tier_Merge.h:Hnd Tryz.prog:={f:=96,h:=_,ok:=tier_Merge.ok,ent:=ent Tryz.func96 (by kernel_rfl) rfl}

theorem usage_New.ok:HdlOk Tryz.prog 29 (hdl [] [.dts 0 (.ptr 156 (.map ⟨110,3,true,(.pair (.int .i64) (.pair (.int .i64) (.pair (.int .i64) (.pair (.int .i64) (.pair (.int .i64) (.int .i64)))))),false,(.int .i64)⟩))] (fun y=>usage_New.f)):=
  hdl_ok [] [] _ _ _ Tryz.func29 rfl (by kernel_rfl) (by kernel_rfl) (fun y=>by kernel_rfl)
noncomputable def usage_New.h:Hnd Tryz.prog:={f:=29,h:=_,ok:=usage_New.ok,ent:=ent Tryz.func29 (by kernel_rfl) rfl}

theorem usage_Sheet_changes.ok:HdlOk Tryz.prog 65 (hdlP 156 (.map ⟨110,3,true,(.pair (.int .i64) (.pair (.int .i64) (.pair (.int .i64) (.pair (.int .i64) (.pair (.int .i64) (.int .i64)))))),false,(.int .i64)⟩) [(false,(.int .i64)),(false,(.int .i64)),(false,(.int .i64)),(false,(.slice (.pair (.int .i64) (.pair (.int .i64) (.int .i64)))))] [(false,(.row (.pair (.int .i64) (.pair (.int .i64) (.pair (.int .i64) (.pair (.int .i64) (.pair (.int .i64) (.int .i64)))))) 110)),(false,(.flat (.int .i64)))] (fun s y=>usage_Sheet_changes.f s y.1 y.2.1 y.2.2.1 y.2.2.2)):=
  hdlP_ok [usage_Row_place.h,tier_Merge.h,usage_within.h] [⟨0,8,[.dts 14 (.row (.pair (.int .i64) (.pair (.int .i64) (.pair (.int .i64) (.pair (.int .i64) (.pair (.int .i64) (.int .i64)))))) 110),.sl 37 false (.int .i64)],[(.ret,[.dts 10 (.row (.pair (.int .i64) (.pair (.int .i64) (.pair (.int .i64) (.pair (.int .i64) (.pair (.int .i64) (.int .i64)))))) 110),.sl 11 false (.int .i64)]),(.exit 0,[.dts 14 (.row (.pair (.int .i64) (.pair (.int .i64) (.pair (.int .i64) (.pair (.int .i64) (.pair (.int .i64) (.int .i64)))))) 110)])],0⟩,⟨3,11,[],[(.norm,[.sl 59 false .bool])],0⟩,⟨1,62,[.dts 14 (.row (.pair (.int .i64) (.pair (.int .i64) (.pair (.int .i64) (.pair (.int .i64) (.pair (.int .i64) (.int .i64)))))) 110)],[(.norm,[.dts 14 (.row (.pair (.int .i64) (.pair (.int .i64) (.pair (.int .i64) (.pair (.int .i64) (.pair (.int .i64) (.int .i64)))))) 110)])],0⟩] _ _ _ _ _ Tryz.func65 rfl (fun s y=>by kernel_rfl)
noncomputable def usage_Sheet_changes.h:Hnd Tryz.prog:={f:=65,h:=_,ok:=usage_Sheet_changes.ok,ent:=ent Tryz.func65 (by kernel_rfl) rfl}

theorem usage_Sheet_Add.ok:HdlOk Tryz.prog 30 (hdlP 156 (.map ⟨110,3,true,(.pair (.int .i64) (.pair (.int .i64) (.pair (.int .i64) (.pair (.int .i64) (.pair (.int .i64) (.int .i64)))))),false,(.int .i64)⟩) [(false,(.int .i64)),(false,(.int .i64)),(false,(.int .i64)),(false,(.slice (.pair (.int .i64) (.pair (.int .i64) (.int .i64)))))] [(false,(.flat (.int .i64)))] (fun s y=>usage_Sheet_Add.f s y.1 y.2.1 y.2.2.1 y.2.2.2)):=
  hdlP_ok [usage_Sheet_changes.h,usage_Row_key.h] [⟨0,6,[.sl 13 false (.int .i64),.sl 14 false .bool,.sl 40 false (.int .i64)],[(.exit 0,[.sl 13 false (.int .i64),.sl 14 false .bool])],0⟩,⟨1,55,[],[(.norm,[.sl 13 false (.int .i64)])],0⟩,⟨3,11,[],[(.norm,[.sl 14 false .bool])],0⟩,⟨0,18,[.sl 74 false (.int .i64),.mp 2 ⟨110,3,true,(.pair (.int .i64) (.pair (.int .i64) (.pair (.int .i64) (.pair (.int .i64) (.pair (.int .i64) (.int .i64)))))),false,(.int .i64)⟩],[(.exit 3,[.mp 2 ⟨110,3,true,(.pair (.int .i64) (.pair (.int .i64) (.pair (.int .i64) (.pair (.int .i64) (.pair (.int .i64) (.int .i64)))))),false,(.int .i64)⟩])],0⟩] _ _ _ _ _ Tryz.func30 rfl (fun s y=>by kernel_rfl)
noncomputable def usage_Sheet_Add.h:Hnd Tryz.prog:={f:=30,h:=_,ok:=usage_Sheet_Add.ok,ent:=ent Tryz.func30 (by kernel_rfl) rfl}

noncomputable def sort154.h:Hnd Tryz.prog:={f:=154,h:=sortHdl 138 (.pair (.int .i64) (.pair (.int .i64) (.pair (.int .i64) (.pair (.int .i64) (.pair (.int .i64) (.int .i64)))))) usage_Row_order.f,ok:=sort_ok (T:=(.pair (.int .i64) (.pair (.int .i64) (.pair (.int .i64) (.pair (.int .i64) (.pair (.int .i64) (.int .i64))))))) (f:=usage_Row_order.f) sortR (by kernel_rfl) (@hdlV_ok ⟨True⟩ _ _ _ _ _ (by kernel_rfl) (@usage_Row_order.ok ⟨True⟩)) (ent Tryz.func138 (by kernel_rfl) rfl) (by kernel_rfl) (by kernel_rfl),ent:=ent Tryz.func154 (by kernel_rfl) rfl}

noncomputable def keys153.h:Hnd Tryz.prog:={f:=153,h:=Kv155.keysHdl,ok:=Kv155.keys_ok (fun h=>h),ent:=ent Tryz.func153 (by kernel_rfl) rfl}

noncomputable def slices_SortedFunc_usage_Row.h:Hnd Tryz.prog:={f:=136,h:=_,ok:=inlR_ok [keys153.h,sort154.h] [] 2 Tryz.func136 rfl,ent:=ent Tryz.func136 (by kernel_rfl) rfl}

noncomputable def maps_Keys_usage_Row_int.h:Hnd Tryz.prog:={f:=137,h:=_,ok:=inlR_ok [] [] 1 Tryz.func137 rfl,ent:=ent Tryz.func137 (by kernel_rfl) rfl}

theorem usage_Sheet_all.ok:HdlOk Tryz.prog 102 (hdlP 156 (.map ⟨110,3,true,(.pair (.int .i64) (.pair (.int .i64) (.pair (.int .i64) (.pair (.int .i64) (.pair (.int .i64) (.int .i64)))))),false,(.int .i64)⟩) [] [(false,(.row (.pair (.int .i64) (.pair (.int .i64) (.pair (.int .i64) (.pair (.int .i64) (.pair (.int .i64) (.int .i64)))))) 110))] (fun s y=>usage_Sheet_all.f s)):=
  hdlP_ok [slices_SortedFunc_usage_Row.h,maps_Keys_usage_Row_int.h] [⟨0,5,[.sl 16 false (.int .i64),.rw 3 (.pair (.int .i64) (.pair (.int .i64) (.pair (.int .i64) (.pair (.int .i64) (.pair (.int .i64) (.int .i64)))))) 110],[(.exit 0,[.rw 3 (.pair (.int .i64) (.pair (.int .i64) (.pair (.int .i64) (.pair (.int .i64) (.pair (.int .i64) (.int .i64)))))) 110])],0⟩] _ _ _ _ _ Tryz.func102 rfl (fun s y=>by kernel_rfl)
noncomputable def usage_Sheet_all.h:Hnd Tryz.prog:={f:=102,h:=_,ok:=orH_ok (p:=nilP) (inlR_ok [slices_SortedFunc_usage_Row.h,maps_Keys_usage_Row_int.h] [] 1 Tryz.func102 rfl) usage_Sheet_all.ok,ent:=ent Tryz.func102 (by kernel_rfl) rfl}

noncomputable def usage_Sheet_Rows_1.h:Hnd Tryz.prog:={f:=103,h:=_,ok:=inlR_ok [slices_Contains___int_int.h] [⟨3,1,[],[(.norm,[.sl 4 false .bool])],0⟩] 3 Tryz.func103 rfl,ent:=ent Tryz.func103 (by kernel_rfl) rfl}

noncomputable def slices_IndexFunc_usage_Row.h:Hnd Tryz.prog:={f:=135,h:=_,ok:=inlR_ok [usage_Sheet_Rows_1.h] [⟨0,2,[.sl 8 false (.int .i64)],[(.ret,[.sl 4 false (.int .i64)]),(.exit 0,[])],0⟩] 2 Tryz.func135 rfl,ent:=ent Tryz.func135 (by kernel_rfl) rfl}

noncomputable def slices_DeleteFunc_usage_Row.h:Hnd Tryz.prog:={f:=101,h:=_,ok:=inlR_ok [usage_Sheet_Rows_1.h,usage_Sheet_Rows_1.h,slices_IndexFunc_usage_Row.h] [⟨3,1,[],[(.norm,[.sl 5 false (.int .i64)])],0⟩,⟨0,5,[.sl 5 false (.int .i64),.sl 6 false (.int .i64),.rw 5 (.pair (.int .i64) (.pair (.int .i64) (.pair (.int .i64) (.pair (.int .i64) (.pair (.int .i64) (.int .i64)))))) 110],[(.exit 0,[.sl 5 false (.int .i64),.rw 5 (.pair (.int .i64) (.pair (.int .i64) (.pair (.int .i64) (.pair (.int .i64) (.pair (.int .i64) (.int .i64)))))) 110])],0⟩,⟨1,29,[.rw 5 (.pair (.int .i64) (.pair (.int .i64) (.pair (.int .i64) (.pair (.int .i64) (.pair (.int .i64) (.int .i64)))))) 110],[(.norm,[.sl 5 false (.int .i64),.rw 5 (.pair (.int .i64) (.pair (.int .i64) (.pair (.int .i64) (.pair (.int .i64) (.pair (.int .i64) (.int .i64)))))) 110])],0⟩] 2 Tryz.func101 rfl,ent:=ent Tryz.func101 (by kernel_rfl) rfl}

theorem usage_Sheet_Rows.ok:HdlOk Tryz.prog 68 (hdlP 156 (.map ⟨110,3,true,(.pair (.int .i64) (.pair (.int .i64) (.pair (.int .i64) (.pair (.int .i64) (.pair (.int .i64) (.int .i64)))))),false,(.int .i64)⟩) [(false,(.int .i64)),(false,(.slice (.int .i64)))] [(false,(.row (.pair (.int .i64) (.pair (.int .i64) (.pair (.int .i64) (.pair (.int .i64) (.pair (.int .i64) (.int .i64)))))) 110))] (fun s y=>usage_Sheet_Rows.f s y.1 y.2)):=
  hdlP_ok [slices_DeleteFunc_usage_Row.h,slices_DeleteFunc_usage_Row.h,usage_Sheet_all.h] [⟨3,1,[.opn 0 156 1,.dtc 0 0 (.map ⟨110,3,true,(.pair (.int .i64) (.pair (.int .i64) (.pair (.int .i64) (.pair (.int .i64) (.pair (.int .i64) (.int .i64)))))),false,(.int .i64)⟩)],[(.norm,[.dts 6 (.row (.pair (.int .i64) (.pair (.int .i64) (.pair (.int .i64) (.pair (.int .i64) (.pair (.int .i64) (.int .i64)))))) 110),.opn 0 156 1,.dtc 0 0 (.map ⟨110,3,true,(.pair (.int .i64) (.pair (.int .i64) (.pair (.int .i64) (.pair (.int .i64) (.pair (.int .i64) (.int .i64)))))),false,(.int .i64)⟩)])],0⟩] _ _ _ _ _ Tryz.func68 rfl (fun s y=>by kernel_rfl)
noncomputable def usage_Sheet_Rows.h:Hnd Tryz.prog:={f:=68,h:=_,ok:=usage_Sheet_Rows.ok,ent:=ent Tryz.func68 (by kernel_rfl) rfl}

theorem tree_limit.ok:HdlOk Tryz.prog 139 (hdl [(false,(.int .i64))] [.sl 0 false .bool] (fun y=>tree_limit.f y)):=
  hdl_ok [] [⟨3,1,[],[(.norm,[.sl 2 false .bool])],0⟩] _ _ _ Tryz.func139 rfl (by kernel_rfl) (by kernel_rfl) (fun y=>by kernel_rfl)
noncomputable def tree_limit.h:Hnd Tryz.prog:={f:=139,h:=_,ok:=tree_limit.ok,ent:=ent Tryz.func139 (by kernel_rfl) rfl,v:=some (hdlV _ _ _),vok:=by intro g h;obtain rfl:=Option.some.inj h;exact hdlV_ok (by kernel_rfl) tree_limit.ok,c:=true,cok:=by intro _ g h;obtain rfl:=Option.some.inj h;exact hdlVC_ok (by kernel_rfl) (by kernel_rfl) tree_limit.ok}

theorem tree_New.ok:HdlOk Tryz.prog 69 (hdl [] [.dts 0 (.ptr 206 (.map ⟨3,197,false,(.int .i64),true,(.pair (.int .i64) (.pair (.int .i64) (.pair (.int .i64) (.pair (.int .i64) .bool))))⟩))] (fun y=>tree_New.f)):=
  hdl_ok [] [] _ _ _ Tryz.func69 rfl (by kernel_rfl) (by kernel_rfl) (fun y=>by kernel_rfl)
noncomputable def tree_New.h:Hnd Tryz.prog:={f:=69,h:=_,ok:=tree_New.ok,ent:=ent Tryz.func69 (by kernel_rfl) rfl}

theorem tree_Tree_under.ok:HdlOk Tryz.prog 140 (hdlP 206 (.map ⟨3,197,false,(.int .i64),true,(.pair (.int .i64) (.pair (.int .i64) (.pair (.int .i64) (.pair (.int .i64) .bool))))⟩) [(false,(.int .i64)),(false,(.int .i64))] [(false,(.flat (.int .i64)))] (fun s y=>tree_Tree_under.f s y.1 y.2)):=
  hdlP_ok [] [] _ _ _ _ _ Tryz.func140 rfl (fun s y=>by kernel_rfl)
noncomputable def tree_Tree_under.h:Hnd Tryz.prog:={f:=140,h:=_,ok:=tree_Tree_under.ok,ent:=ent Tryz.func140 (by kernel_rfl) rfl}

theorem tree_Tree_Put.ok:HdlOk Tryz.prog 104 (hdlP 206 (.map ⟨3,197,false,(.int .i64),true,(.pair (.int .i64) (.pair (.int .i64) (.pair (.int .i64) (.pair (.int .i64) .bool))))⟩) [(true,(.pair (.int .i64) (.pair (.int .i64) (.pair (.int .i64) (.pair (.int .i64) .bool)))))] [(false,(.flat (.int .i64)))] (fun s y=>tree_Tree_Put.f s y)):=
  hdlP_ok [tree_limit.h,tree_Tree_under.h] [⟨3,1,[],[(.norm,[.sl 25 false .bool])],0⟩,⟨3,3,[],[(.norm,[.sl 42 false .bool])],0⟩,⟨1,56,[.opn 0 206 1,.dtc 0 0 (.map ⟨3,197,false,(.int .i64),true,(.pair (.int .i64) (.pair (.int .i64) (.pair (.int .i64) (.pair (.int .i64) .bool))))⟩)],[(.ret,[.sl 4 false (.int .i64),.opn 0 206 1,.dtc 0 0 (.map ⟨3,197,false,(.int .i64),true,(.pair (.int .i64) (.pair (.int .i64) (.pair (.int .i64) (.pair (.int .i64) .bool))))⟩)]),(.norm,[.opn 0 206 1,.dtc 0 0 (.map ⟨3,197,false,(.int .i64),true,(.pair (.int .i64) (.pair (.int .i64) (.pair (.int .i64) (.pair (.int .i64) .bool))))⟩)])],0⟩,⟨3,12,[],[(.norm,[.sl 78 false .bool])],0⟩] _ _ _ _ _ Tryz.func104 rfl (fun s y=>by kernel_rfl)
noncomputable def tree_Tree_Put.h:Hnd Tryz.prog:={f:=104,h:=_,ok:=orH_ok (p:=nilP) (inlR_ok [tree_limit.h,tree_Tree_under.h] [] 2 Tryz.func104 rfl) tree_Tree_Put.ok,ent:=ent Tryz.func104 (by kernel_rfl) rfl}

theorem tree_Tree_Create.ok:HdlOk Tryz.prog 70 (hdlP 206 (.map ⟨3,197,false,(.int .i64),true,(.pair (.int .i64) (.pair (.int .i64) (.pair (.int .i64) (.pair (.int .i64) .bool))))⟩) [(false,(.int .i64)),(false,(.int .i64)),(false,(.int .i64)),(false,(.int .i64))] [(false,(.flat (.int .i64)))] (fun s y=>tree_Tree_Create.f s y.1 y.2.1 y.2.2.1 y.2.2.2)):=
  hdlP_ok [tree_Tree_Put.h] [] _ _ _ _ _ Tryz.func70 rfl (fun s y=>by kernel_rfl)
noncomputable def tree_Tree_Create.h:Hnd Tryz.prog:={f:=70,h:=_,ok:=orH_ok (p:=nilP) (inlR_ok [tree_Tree_Put.h] [] 5 Tryz.func70 rfl) tree_Tree_Create.ok,ent:=ent Tryz.func70 (by kernel_rfl) rfl}

theorem tree_Tree_Get.ok:HdlOk Tryz.prog 98 (hdlP 206 (.map ⟨3,197,false,(.int .i64),true,(.pair (.int .i64) (.pair (.int .i64) (.pair (.int .i64) (.pair (.int .i64) .bool))))⟩) [(false,(.int .i64))] [(true,(.flat (.pair (.int .i64) (.pair (.int .i64) (.pair (.int .i64) (.pair (.int .i64) .bool)))))),(false,(.flat (.int .i64)))] (fun s y=>tree_Tree_Get.f s y)):=
  hdlP_ok [] [] _ _ _ _ _ Tryz.func98 rfl (fun s y=>by kernel_rfl)
noncomputable def tree_Tree_Get.h:Hnd Tryz.prog:={f:=98,h:=_,ok:=orH_ok (p:=nilP) (inlR_ok [] [] 2 Tryz.func98 rfl) tree_Tree_Get.ok,ent:=ent Tryz.func98 (by kernel_rfl) rfl}

noncomputable def slices_Reverse___int_int.h:Hnd Tryz.prog:={f:=134,h:=_,ok:=inlR_ok [] [⟨0,1,[.sl 2 false (.int .i64),.sl 3 false (.int .i64),.rw 4 (.int .i64) 3],[(.exit 0,[.rw 4 (.int .i64) 3])],0⟩] 1 Tryz.func134 rfl,ent:=ent Tryz.func134 (by kernel_rfl) rfl}

theorem tree_Tree_Path.ok:HdlOk Tryz.prog 100 (hdlP 206 (.map ⟨3,197,false,(.int .i64),true,(.pair (.int .i64) (.pair (.int .i64) (.pair (.int .i64) (.pair (.int .i64) .bool))))⟩) [(false,(.int .i64))] [(false,(.row (.int .i64) 3)),(false,(.flat (.int .i64)))] (fun s y=>tree_Tree_Path.f s y)):=
  hdlP_ok [tree_Tree_Get.h,slices_Reverse___int_int.h] [⟨0,5,[.sl 1 false (.int .i64),.dts 8 (.row (.int .i64) 3)],[(.exit 0,[.dts 8 (.row (.int .i64) 3)])],0⟩] _ _ _ _ _ Tryz.func100 rfl (fun s y=>by kernel_rfl)
noncomputable def tree_Tree_Path.h:Hnd Tryz.prog:={f:=100,h:=_,ok:=orH_ok (p:=nilP) (inlR_ok [tree_Tree_Get.h,slices_Reverse___int_int.h] [] 2 Tryz.func100 rfl) tree_Tree_Path.ok,ent:=ent Tryz.func100 (by kernel_rfl) rfl}

noncomputable def keys110.h:Hnd Tryz.prog:={f:=110,h:=Kv152.keysHdl,ok:=Kv152.keys_ok (fun h=>h),ent:=ent Tryz.func110 (by kernel_rfl) rfl}

noncomputable def sort111.h:Hnd Tryz.prog:={f:=111,h:=sortIHdl,ok:=Sx,ent:=ent Tryz.func111 (by kernel_rfl) rfl}

noncomputable def slices_Sorted_int.h:Hnd Tryz.prog:={f:=82,h:=_,ok:=inlR_ok [keys110.h,sort111.h] [] 1 Tryz.func82 rfl,ent:=ent Tryz.func82 (by kernel_rfl) rfl}

noncomputable def maps_Keys_tree_Node.h:Hnd Tryz.prog:={f:=133,h:=_,ok:=inlR_ok [] [] 1 Tryz.func133 rfl,ent:=ent Tryz.func133 (by kernel_rfl) rfl}

theorem tree_Tree_Ids.ok:HdlOk Tryz.prog 99 (hdlP 206 (.map ⟨3,197,false,(.int .i64),true,(.pair (.int .i64) (.pair (.int .i64) (.pair (.int .i64) (.pair (.int .i64) .bool))))⟩) [] [(false,(.row (.int .i64) 3))] (fun s y=>tree_Tree_Ids.f s)):=
  hdlP_ok [slices_Sorted_int.h,maps_Keys_tree_Node.h] [] _ _ _ _ _ Tryz.func99 rfl (fun s y=>by kernel_rfl)
noncomputable def tree_Tree_Ids.h:Hnd Tryz.prog:={f:=99,h:=_,ok:=orH_ok (p:=nilP) (inlR_ok [slices_Sorted_int.h,maps_Keys_tree_Node.h] [] 1 Tryz.func99 rfl) tree_Tree_Ids.ok,ent:=ent Tryz.func99 (by kernel_rfl) rfl}

theorem tree_Tree_Below.ok:HdlOk Tryz.prog 67 (hdlP 206 (.map ⟨3,197,false,(.int .i64),true,(.pair (.int .i64) (.pair (.int .i64) (.pair (.int .i64) (.pair (.int .i64) .bool))))⟩) [(false,(.int .i64))] [(false,(.row (.int .i64) 3)),(false,(.flat (.int .i64)))] (fun s y=>tree_Tree_Below.f s y)):=
  hdlP_ok [slices_Contains___int_int.h,tree_Tree_Get.h,tree_Tree_Ids.h,tree_Tree_Path.h] [⟨0,6,[.dts 8 (.row (.int .i64) 3),.sl 25 false (.int .i64),.opn 0 206 1,.dtc 0 0 (.map ⟨3,197,false,(.int .i64),true,(.pair (.int .i64) (.pair (.int .i64) (.pair (.int .i64) (.pair (.int .i64) .bool))))⟩)],[(.exit 0,[.dts 8 (.row (.int .i64) 3),.opn 0 206 1,.dtc 0 0 (.map ⟨3,197,false,(.int .i64),true,(.pair (.int .i64) (.pair (.int .i64) (.pair (.int .i64) (.pair (.int .i64) .bool))))⟩)])],0⟩,⟨3,9,[],[(.norm,[.sl 41 false .bool])],0⟩,⟨1,41,[.dts 8 (.row (.int .i64) 3)],[(.norm,[.dts 8 (.row (.int .i64) 3)])],0⟩] _ _ _ _ _ Tryz.func67 rfl (fun s y=>by kernel_rfl)
noncomputable def tree_Tree_Below.h:Hnd Tryz.prog:={f:=67,h:=_,ok:=orH_ok (p:=nilP) (inlR_ok [slices_Contains___int_int.h,tree_Tree_Get.h,tree_Tree_Ids.h,tree_Tree_Path.h] [] 2 Tryz.func67 rfl) tree_Tree_Below.ok,ent:=ent Tryz.func67 (by kernel_rfl) rfl}

theorem invoice_lines.ok:HdlOk Tryz.prog 80 (hdl [(false,(.slice (.pair (.int .i64) (.pair (.int .i64) (.pair (.int .i64) (.pair (.int .i64) (.pair (.int .i64) (.int .i64))))))))] [.dts 0 (.row (.pair (.int .i64) (.pair (.int .i64) (.pair (.int .i64) (.pair (.int .i64) (.pair (.int .i64) (.int .i64)))))) 71),.sl 1 false .bool] (fun y=>invoice_lines.f y)):=
  hdl_ok [arith_Mul.h] [⟨0,3,[.dts 4 (.row (.pair (.int .i64) (.pair (.int .i64) (.pair (.int .i64) (.pair (.int .i64) (.pair (.int .i64) (.int .i64)))))) 71),.sl 11 false (.int .i64)],[(.ret,[.dts 2 (.row (.pair (.int .i64) (.pair (.int .i64) (.pair (.int .i64) (.pair (.int .i64) (.pair (.int .i64) (.int .i64)))))) 71),.sl 3 false .bool]),(.exit 0,[.dts 4 (.row (.pair (.int .i64) (.pair (.int .i64) (.pair (.int .i64) (.pair (.int .i64) (.pair (.int .i64) (.int .i64)))))) 71)])],0⟩] _ _ _ Tryz.func80 rfl (by kernel_rfl) (by kernel_rfl) (fun y=>by kernel_rfl)
noncomputable def invoice_lines.h:Hnd Tryz.prog:={f:=80,h:=_,ok:=invoice_lines.ok,ent:=ent Tryz.func80 (by kernel_rfl) rfl}

theorem invoice_sums.ok:HdlOk Tryz.prog 34 (hdl [(false,(.slice (.pair (.int .i64) (.pair (.int .i64) (.pair (.int .i64) (.pair (.int .i64) (.pair (.int .i64) (.int .i64))))))))] [.dts 0 (.row (.pair (.int .i64) (.int .i64)) 74),.sl 1 false (.int .i64),.sl 2 false .bool] (fun y=>invoice_sums.f y)):=
  hdl_ok [arith_Sum.h] [⟨0,4,[.dts 5 (.row (.pair (.int .i64) (.int .i64)) 74),.dts 6 (.row (.int .i64) 3),.sl 15 false (.int .i64)],[(.ret,[.dts 2 (.row (.pair (.int .i64) (.int .i64)) 74),.sl 3 false (.int .i64),.sl 4 false .bool]),(.exit 0,[.dts 5 (.row (.pair (.int .i64) (.int .i64)) 74),.dts 6 (.row (.int .i64) 3)])],0⟩,⟨0,8,[.dts 8 (.row (.int .i64) 3),.sl 20 false (.int .i64)],[(.exit 2,[.dts 8 (.row (.int .i64) 3)])],0⟩,⟨1,28,[.dts 8 (.row (.int .i64) 3)],[(.norm,[.dts 8 (.row (.int .i64) 3)])],0⟩,⟨1,44,[.dts 5 (.row (.pair (.int .i64) (.int .i64)) 74),.dts 6 (.row (.int .i64) 3)],[(.norm,[.dts 5 (.row (.pair (.int .i64) (.int .i64)) 74),.dts 6 (.row (.int .i64) 3)])],0⟩] _ _ _ Tryz.func34 rfl (by kernel_rfl) (by kernel_rfl) (fun y=>by kernel_rfl)
noncomputable def invoice_sums.h:Hnd Tryz.prog:={f:=34,h:=_,ok:=invoice_sums.ok,ent:=ent Tryz.func34 (by kernel_rfl) rfl}

theorem invoice_of.ok:HdlOk Tryz.prog 43 (hdl [(false,(.int .i64)),(false,(.int .i64)),(false,(.slice (.pair (.int .i64) (.pair (.int .i64) (.pair (.int .i64) (.pair (.int .i64) (.pair (.int .i64) (.int .i64))))))))] [.sl 0 true (.pair (.int .i64) (.pair (.int .i64) (.pair (.int .i64) (.pair (.slice (.pair (.int .i64) (.pair (.int .i64) (.pair (.int .i64) (.pair (.int .i64) (.pair (.int .i64) (.int .i64))))))) (.slice (.pair (.int .i64) (.int .i64))))))),.sl 1 false (.int .i64)] (fun y=>invoice_of.f y.1 y.2.1 y.2.2)):=
  hdl_ok [invoice_sums.h,invoice_lines.h] [] _ _ _ Tryz.func43 rfl (by kernel_rfl) (by kernel_rfl) (fun y=>by kernel_rfl)
noncomputable def invoice_of.h:Hnd Tryz.prog:={f:=43,h:=_,ok:=invoice_of.ok,ent:=ent Tryz.func43 (by kernel_rfl) rfl,v:=some (hdlV _ _ _),vok:=by intro g h;obtain rfl:=Option.some.inj h;exact hdlV_ok (by kernel_rfl) invoice_of.ok}

theorem invoice_Make.ok:HdlOk Tryz.prog 31 (hdlQ [.ptr 206 (.map ⟨3,197,false,(.int .i64),true,(.pair (.int .i64) (.pair (.int .i64) (.pair (.int .i64) (.pair (.int .i64) .bool))))⟩),.ptr 156 (.map ⟨110,3,true,(.pair (.int .i64) (.pair (.int .i64) (.pair (.int .i64) (.pair (.int .i64) (.pair (.int .i64) (.int .i64)))))),false,(.int .i64)⟩),.val false (.int .i64),.val false (.int .i64)] [(true,(.flat (.pair (.int .i64) (.pair (.int .i64) (.pair (.int .i64) (.pair (.slice (.pair (.int .i64) (.pair (.int .i64) (.pair (.int .i64) (.pair (.int .i64) (.pair (.int .i64) (.int .i64))))))) (.slice (.pair (.int .i64) (.int .i64))))))))),(false,(.flat (.int .i64)))] (fun s y=>invoice_Make.f s.1 s.2.1 y.1 y.2)):=
  hdlQ_ok [invoice_of.h,tree_Tree_Below.h,usage_Sheet_Rows.h] [⟨3,1,[],[(.norm,[.sl 25 false .bool])],0⟩] _ _ _ Tryz.func31 rfl (fun s y=>by kernel_rfl)
noncomputable def invoice_Make.h:Hnd Tryz.prog:={f:=31,h:=_,ok:=orH_ok (p:=nilP) (inl_ok [invoice_of.h,tree_Tree_Below.h,usage_Sheet_Rows.h] [] 4 Tryz.func31 rfl) invoice_Make.ok,ent:=ent Tryz.func31 (by kernel_rfl) rfl}

theorem purserlaw21_world.ok:HdlOk Tryz.prog 32 (hdl [] [.dts 0 (.ptr 206 (.map ⟨3,197,false,(.int .i64),true,(.pair (.int .i64) (.pair (.int .i64) (.pair (.int .i64) (.pair (.int .i64) .bool))))⟩))] (fun y=>purserlaw21_world.f)):=
  hdl_ok [tree_New.h,tree_Tree_Create.h] [] _ _ _ Tryz.func32 rfl (by kernel_rfl) (by kernel_rfl) (fun y=>by kernel_rfl)
noncomputable def purserlaw21_world.h:Hnd Tryz.prog:={f:=32,h:=_,ok:=purserlaw21_world.ok,ent:=ent Tryz.func32 (by kernel_rfl) rfl}

theorem purserlaw21_bills.ok:HdlOk Tryz.prog 9 (hdl [] [.sl 0 false .bool] (fun y=>purserlaw21_bills.f)):=
  hdl_ok [invoice_Text.h,usage_New.h,usage_Sheet_Add.h,invoice_Make.h,purserlaw21_world.h] [⟨3,4,[],[(.norm,[.sl 0 false .bool])],0⟩] _ _ _ Tryz.func9 rfl (by kernel_rfl) (by kernel_rfl) (fun y=>by kernel_rfl)
noncomputable def purserlaw21_bills.h:Hnd Tryz.prog:={f:=9,h:=_,ok:=purserlaw21_bills.ok,ent:=ent Tryz.func9 (by kernel_rfl) rfl,v:=some (hdlV _ _ _),vok:=by intro g h;obtain rfl:=Option.some.inj h;exact hdlV_ok (by kernel_rfl) purserlaw21_bills.ok,c:=true,cok:=by intro _ g h;obtain rfl:=Option.some.inj h;exact hdlVC_ok (by kernel_rfl) (by kernel_rfl) purserlaw21_bills.ok}

theorem invoice_Net.ok:HdlOk Tryz.prog 23 (hdlP 125 (.pair (.row (.pair (.pair (.int .i64) (.slice (.pair (.pair (.int .i64) (.pair (.int .i64) (.int .i64))) (.int .i64)))) (.int .i64)) 141) (.pair (.flat (.int .i64)) (.pair (.map ⟨131,3,true,(.pair (.int .i64) (.pair (.int .i64) (.int .i64))),false,(.int .i64)⟩) (.rowD (.map ⟨131,3,true,(.pair (.int .i64) (.pair (.int .i64) (.int .i64))),false,(.int .i64)⟩) 121)))) [(false,(.slice (.int .i64))),(false,(.int .i64))] [(false,(.flat (.int .i64))),(false,(.flat .bool))] (fun s y=>invoice_Net.f s y.1 y.2)):=
  hdlP_ok [slices_Contains___int_int.h,journal_Journal_Moved.h,arith_Sum.h] [⟨0,3,[.dts 8 (.row (.int .i64) 3),.sl 14 false (.int .i64),.opn 0 125 4,.dtc 0 0 (.row (.pair (.pair (.int .i64) (.slice (.pair (.pair (.int .i64) (.pair (.int .i64) (.int .i64))) (.int .i64)))) (.int .i64)) 141),.cl 0 1 (.int .i64),.dtc 0 2 (.map ⟨131,3,true,(.pair (.int .i64) (.pair (.int .i64) (.int .i64))),false,(.int .i64)⟩),.dtc 0 3 (.rowD (.map ⟨131,3,true,(.pair (.int .i64) (.pair (.int .i64) (.int .i64))),false,(.int .i64)⟩) 121)],[(.exit 0,[.dts 8 (.row (.int .i64) 3),.opn 0 125 4,.dtc 0 0 (.row (.pair (.pair (.int .i64) (.slice (.pair (.pair (.int .i64) (.pair (.int .i64) (.int .i64))) (.int .i64)))) (.int .i64)) 141),.cl 0 1 (.int .i64),.dtc 0 2 (.map ⟨131,3,true,(.pair (.int .i64) (.pair (.int .i64) (.int .i64))),false,(.int .i64)⟩),.dtc 0 3 (.rowD (.map ⟨131,3,true,(.pair (.int .i64) (.pair (.int .i64) (.int .i64))),false,(.int .i64)⟩) 121)])],0⟩,⟨2,1,[.dts 8 (.row (.int .i64) 3),.opn 0 125 4,.dtc 0 0 (.row (.pair (.pair (.int .i64) (.slice (.pair (.pair (.int .i64) (.pair (.int .i64) (.int .i64))) (.int .i64)))) (.int .i64)) 141),.cl 0 1 (.int .i64),.dtc 0 2 (.map ⟨131,3,true,(.pair (.int .i64) (.pair (.int .i64) (.int .i64))),false,(.int .i64)⟩),.dtc 0 3 (.rowD (.map ⟨131,3,true,(.pair (.int .i64) (.pair (.int .i64) (.int .i64))),false,(.int .i64)⟩) 121)],[(.norm,[.dts 8 (.row (.int .i64) 3),.opn 0 125 4,.dtc 0 0 (.row (.pair (.pair (.int .i64) (.slice (.pair (.pair (.int .i64) (.pair (.int .i64) (.int .i64))) (.int .i64)))) (.int .i64)) 141),.cl 0 1 (.int .i64),.dtc 0 2 (.map ⟨131,3,true,(.pair (.int .i64) (.pair (.int .i64) (.int .i64))),false,(.int .i64)⟩),.dtc 0 3 (.rowD (.map ⟨131,3,true,(.pair (.int .i64) (.pair (.int .i64) (.int .i64))),false,(.int .i64)⟩) 121)])],0⟩,⟨0,7,[.dts 8 (.row (.int .i64) 3),.sl 24 false (.int .i64),.opn 0 125 4,.dtc 0 0 (.row (.pair (.pair (.int .i64) (.slice (.pair (.pair (.int .i64) (.pair (.int .i64) (.int .i64))) (.int .i64)))) (.int .i64)) 141),.cl 0 1 (.int .i64),.dtc 0 2 (.map ⟨131,3,true,(.pair (.int .i64) (.pair (.int .i64) (.int .i64))),false,(.int .i64)⟩),.dtc 0 3 (.rowD (.map ⟨131,3,true,(.pair (.int .i64) (.pair (.int .i64) (.int .i64))),false,(.int .i64)⟩) 121)],[(.exit 2,[.dts 8 (.row (.int .i64) 3),.opn 0 125 4,.dtc 0 0 (.row (.pair (.pair (.int .i64) (.slice (.pair (.pair (.int .i64) (.pair (.int .i64) (.int .i64))) (.int .i64)))) (.int .i64)) 141),.cl 0 1 (.int .i64),.dtc 0 2 (.map ⟨131,3,true,(.pair (.int .i64) (.pair (.int .i64) (.int .i64))),false,(.int .i64)⟩),.dtc 0 3 (.rowD (.map ⟨131,3,true,(.pair (.int .i64) (.pair (.int .i64) (.int .i64))),false,(.int .i64)⟩) 121)])],0⟩] _ _ _ _ _ Tryz.func23 rfl (fun s y=>by kernel_rfl)
noncomputable def invoice_Net.h:Hnd Tryz.prog:={f:=23,h:=_,ok:=orH_ok (p:=nilP) (frz_ok (inlR_ok [slices_Contains___int_int.h,journal_Journal_Moved.h,arith_Sum.h] [⟨0,7,[.dts 8 (.row (.int .i64) 3),.sl 24 false (.int .i64)],[(.exit 2,[.dts 8 (.row (.int .i64) 3)])],0⟩,⟨0,3,[.dts 8 (.row (.int .i64) 3),.sl 14 false (.int .i64)],[(.exit 0,[.dts 8 (.row (.int .i64) 3)])],0⟩] 3 Tryz.func23 rfl)) invoice_Net.ok,ent:=ent Tryz.func23 (by kernel_rfl) rfl}

theorem purserlaw21_InvoiceNets.ok:HdlOk Tryz.prog 5 (hdl [(false,(.slice (.pair (.int .i64) (.pair (.int .i64) (.pair (.int .i64) .bool))))),(false,(.slice (.int .i64))),(false,(.int .i64))] [.sl 0 false .bool] (fun y=>purserlaw21_InvoiceNets.f y.1 y.2.1 y.2.2)):=
  hdl_ok [purserlaw21_bills.h,journal_New.h,journal_Journal_Close.h,entry_Make.h,journal_Journal_Post.h,journal_Journal_Period.h,invoice_Net.h] [⟨0,7,[.sl 8 false (.int .i64),.sl 9 false (.int .i64),.opn 0 125 4,.dtc 0 0 (.row (.pair (.pair (.int .i64) (.slice (.pair (.pair (.int .i64) (.pair (.int .i64) (.int .i64))) (.int .i64)))) (.int .i64)) 141),.cl 0 1 (.int .i64),.dtc 0 2 (.map ⟨131,3,true,(.pair (.int .i64) (.pair (.int .i64) (.int .i64))),false,(.int .i64)⟩),.dtc 0 3 (.rowD (.map ⟨131,3,true,(.pair (.int .i64) (.pair (.int .i64) (.int .i64))),false,(.int .i64)⟩) 121)],[(.ret,[.sl 6 false .bool,.opn 0 125 4,.dtc 0 0 (.row (.pair (.pair (.int .i64) (.slice (.pair (.pair (.int .i64) (.pair (.int .i64) (.int .i64))) (.int .i64)))) (.int .i64)) 141),.cl 0 1 (.int .i64),.dtc 0 2 (.map ⟨131,3,true,(.pair (.int .i64) (.pair (.int .i64) (.int .i64))),false,(.int .i64)⟩),.dtc 0 3 (.rowD (.map ⟨131,3,true,(.pair (.int .i64) (.pair (.int .i64) (.int .i64))),false,(.int .i64)⟩) 121)]),(.exit 0,[.sl 8 false (.int .i64),.opn 0 125 4,.dtc 0 0 (.row (.pair (.pair (.int .i64) (.slice (.pair (.pair (.int .i64) (.pair (.int .i64) (.int .i64))) (.int .i64)))) (.int .i64)) 141),.cl 0 1 (.int .i64),.dtc 0 2 (.map ⟨131,3,true,(.pair (.int .i64) (.pair (.int .i64) (.int .i64))),false,(.int .i64)⟩),.dtc 0 3 (.rowD (.map ⟨131,3,true,(.pair (.int .i64) (.pair (.int .i64) (.int .i64))),false,(.int .i64)⟩) 121)])],0⟩,⟨3,7,[],[(.norm,[.sl 42 false .bool])],0⟩,⟨2,1,[.opn 0 125 4,.dtc 0 0 (.row (.pair (.pair (.int .i64) (.slice (.pair (.pair (.int .i64) (.pair (.int .i64) (.int .i64))) (.int .i64)))) (.int .i64)) 141),.cl 0 1 (.int .i64),.dtc 0 2 (.map ⟨131,3,true,(.pair (.int .i64) (.pair (.int .i64) (.int .i64))),false,(.int .i64)⟩),.dtc 0 3 (.rowD (.map ⟨131,3,true,(.pair (.int .i64) (.pair (.int .i64) (.int .i64))),false,(.int .i64)⟩) 121)],[(.norm,[.sl 8 false (.int .i64),.opn 0 125 4,.dtc 0 0 (.row (.pair (.pair (.int .i64) (.slice (.pair (.pair (.int .i64) (.pair (.int .i64) (.int .i64))) (.int .i64)))) (.int .i64)) 141),.cl 0 1 (.int .i64),.dtc 0 2 (.map ⟨131,3,true,(.pair (.int .i64) (.pair (.int .i64) (.int .i64))),false,(.int .i64)⟩),.dtc 0 3 (.rowD (.map ⟨131,3,true,(.pair (.int .i64) (.pair (.int .i64) (.int .i64))),false,(.int .i64)⟩) 121)]),(.ret,[.sl 6 false .bool,.opn 0 125 4,.dtc 0 0 (.row (.pair (.pair (.int .i64) (.slice (.pair (.pair (.int .i64) (.pair (.int .i64) (.int .i64))) (.int .i64)))) (.int .i64)) 141),.cl 0 1 (.int .i64),.dtc 0 2 (.map ⟨131,3,true,(.pair (.int .i64) (.pair (.int .i64) (.int .i64))),false,(.int .i64)⟩),.dtc 0 3 (.rowD (.map ⟨131,3,true,(.pair (.int .i64) (.pair (.int .i64) (.int .i64))),false,(.int .i64)⟩) 121)])],0⟩,⟨1,74,[],[(.norm,[.sl 14 false (.int .i64)])],0⟩,⟨3,18,[],[(.norm,[.sl 95 false .bool])],0⟩,⟨0,22,[.sl 19 false .bool,.sl 20 false (.int .i64)],[(.exit 2,[.sl 19 false .bool])],0⟩,⟨3,24,[],[(.norm,[.sl 19 false .bool])],0⟩,⟨3,25,[.opn 0 125 4,.dtc 0 0 (.row (.pair (.pair (.int .i64) (.slice (.pair (.pair (.int .i64) (.pair (.int .i64) (.int .i64))) (.int .i64)))) (.int .i64)) 141),.cl 0 1 (.int .i64),.dtc 0 2 (.map ⟨131,3,true,(.pair (.int .i64) (.pair (.int .i64) (.int .i64))),false,(.int .i64)⟩),.dtc 0 3 (.rowD (.map ⟨131,3,true,(.pair (.int .i64) (.pair (.int .i64) (.int .i64))),false,(.int .i64)⟩) 121)],[(.norm,[.sl 117 false .bool,.opn 0 125 4,.dtc 0 0 (.row (.pair (.pair (.int .i64) (.slice (.pair (.pair (.int .i64) (.pair (.int .i64) (.int .i64))) (.int .i64)))) (.int .i64)) 141),.cl 0 1 (.int .i64),.dtc 0 2 (.map ⟨131,3,true,(.pair (.int .i64) (.pair (.int .i64) (.int .i64))),false,(.int .i64)⟩),.dtc 0 3 (.rowD (.map ⟨131,3,true,(.pair (.int .i64) (.pair (.int .i64) (.int .i64))),false,(.int .i64)⟩) 121)])],0⟩,⟨1,117,[],[(.norm,[.sl 8 false (.int .i64)])],0⟩,⟨1,119,[],[(.norm,[.sl 13 false (.int .i64)])],0⟩,⟨3,31,[],[(.norm,[.sl 6 false .bool])],0⟩] _ _ _ Tryz.func5 rfl (by kernel_rfl) (by kernel_rfl) (fun y=>by kernel_rfl)
noncomputable def purserlaw21_InvoiceNets.h:Hnd Tryz.prog:={f:=5,h:=_,ok:=purserlaw21_InvoiceNets.ok,ent:=ent Tryz.func5 (by kernel_rfl) rfl,v:=some (hdlV _ _ _),vok:=by intro g h;obtain rfl:=Option.some.inj h;exact hdlV_ok (by kernel_rfl) purserlaw21_InvoiceNets.ok}
end Go.Proofs.YtfcgafnmlkiimaaGreatDoor.Y
