/- The program's functions compute what the plain functions tell,whatever the input; no statement of its own. -/
import Derived.Test.YtniohchnpfpffaaGreatProg
import Derived.Test.YtniohchnpfpffaaGreatAmE
import Derived.Test.YtniohchnpfpffaaGreatZ1d
import Derived.Test.YtniohchnpfpffaaGreatSA
import Derived.Test.YtniohchnpfpffaaGreatLSort
import Derived.Test.YtniohchnpfpffaaGreatPh
import Derived.Test.YtniohchnpfpffaaGreatKhi
import Derived.Test.YtniohchnpfpffaaGreatSx
import Derived.KernelRfl
set_option linter.unusedVariables false
namespace Go.Proofs.YtniohchnpfpffaaGreat.Y
open Go.Am Go.Vk
set_option maxRecDepth 100000
abbrev kB:DT:= .map ⟨3,97,false,tI,true,tV⟩
abbrev kK:DT:= .map ⟨40,3,true,tA,false,tI⟩
abbrev kR:DT:= .row (.pair (.pair tI (.slice (.pair tA tI))) tI) 112
abbrev kM:DT:= .rowD kK 106
abbrev kJ:DT:= .pair kR (.pair (.flat tI) (.pair kK kM))
abbrev kP:DT:= .ptr 109 kJ
abbrev kQ:DT:= .ptr 175 kB
abbrev tW:Ty:= .arr tV 33
abbrev kE:DT:= .row (.pair tI (.slice (.pair tI tA))) 52
abbrev tE:Ty:= .pair tI (.slice (.pair tA tI))
abbrev tF:Ty:= .pair tI (.slice (.pair tI tA))
theorem ent {f : FuncId} {fn : Func} {c : Code} (hf : Tryz.prog.funcs[f]? = some fn) (hn : (fn.name == "runtime.NumGoroutine") = false) (hb : fn.body = some c) : ∀ args w,(callFunc f args).run Tryz.prog w = .ok (.enter f args) w := Go.MuLone.run_callFunc_enter hf hn hb
section
variable [Dr]
theorem cmp_isNaN_int.ok:za8 Tryz.prog 110 (hdl [(false,tI)] [.sl 0 false .bool] (fun y=>cmp_isNaN_int.f y)):=
  zb5 [] [] _ _ _ Tryz.func110 rfl (by kernel_rfl) (by kernel_rfl) (fun y=>by kernel_rfl)
noncomputable def cmp_isNaN_int.h:Hnd Tryz.prog:={f:=110,h:=_,ok:=cmp_isNaN_int.ok,ent:=ent Tryz.func110 (by kernel_rfl) rfl,v:=some (zf5 _ _ _),vok:=by intro g h;obtain rfl:=Option.some.inj h;exact zat (by kernel_rfl) cmp_isNaN_int.ok,c:=true,cok:=by intro _ g h;obtain rfl:=Option.some.inj h;exact zbw (by kernel_rfl) (by kernel_rfl) cmp_isNaN_int.ok}

theorem cmp_Compare_int.ok:za8 Tryz.prog 53 (hdl [(false,tI),(false,tI)] [.sl 0 false tI] (fun y=>cmp_Compare_int.f y.1 y.2)):=
  zb5 [cmp_isNaN_int.h] [] _ _ _ Tryz.func53 rfl (by kernel_rfl) (by kernel_rfl) (fun y=>by kernel_rfl)
noncomputable def cmp_Compare_int.h:Hnd Tryz.prog:={f:=53,h:=_,ok:=cmp_Compare_int.ok,ent:=ent Tryz.func53 (by kernel_rfl) rfl,v:=some (zf5 _ _ _),vok:=by intro g h;obtain rfl:=Option.some.inj h;exact zat (by kernel_rfl) cmp_Compare_int.ok,c:=true,cok:=by intro _ g h;obtain rfl:=Option.some.inj h;exact zbw (by kernel_rfl) (by kernel_rfl) cmp_Compare_int.ok}

theorem cmp_Or_int.ok:za8 Tryz.prog 52 (hdl [(false,(.slice tI))] [.sl 0 false tI] (fun y=>cmp_Or_int.f y)):=
  zb5 [] [⟨0,3,[.sl 8 false tI],[(.ret,[.sl 2 false tI]),(.exit 0,[])],0⟩] _ _ _ Tryz.func52 rfl (by kernel_rfl) (by kernel_rfl) (fun y=>by kernel_rfl)
noncomputable def cmp_Or_int.h:Hnd Tryz.prog:={f:=52,h:=_,ok:=cmp_Or_int.ok,ent:=ent Tryz.func52 (by kernel_rfl) rfl,v:=some (zf5 _ _ _),vok:=by intro g h;obtain rfl:=Option.some.inj h;exact zat (by kernel_rfl) cmp_Or_int.ok}

noncomputable def entry_Account_order.h:Hnd Tryz.prog:={f:=66,h:=_,ok:=za9 [cmp_Or_int.h,cmp_Compare_int.h] [] 2 Tryz.func66 rfl,ent:=ent Tryz.func66 (by kernel_rfl) rfl}

theorem entry_Make_1.ok:za8 Tryz.prog 65 (hdl [(true,(.pair tA tI)),(true,(.pair tA tI))] [.sl 0 false tI] (fun y=>entry_Make_1.f y.1 y.2)):=
  zb5 [entry_Account_order.h] [] _ _ _ Tryz.func65 rfl (by kernel_rfl) (by kernel_rfl) (fun y=>by kernel_rfl)
noncomputable def entry_Make_1.h:Hnd Tryz.prog:={f:=65,h:=_,ok:=entry_Make_1.ok,ent:=ent Tryz.func65 (by kernel_rfl) rfl,v:=some (zf5 _ _ _),vok:=by intro g h;obtain rfl:=Option.some.inj h;exact zat (by kernel_rfl) entry_Make_1.ok,c:=true,cok:=by intro _ g h;obtain rfl:=Option.some.inj h;exact zbw (by kernel_rfl) (by kernel_rfl) entry_Make_1.ok}
end
instance :Dr:=⟨False⟩
noncomputable def sort64.h:Hnd Tryz.prog:={f:=64,h:=zub 65 (.pair tA tI) entry_Make_1.f,ok:=sort_ok (T:=(.pair tA tI)) (f:=entry_Make_1.f) sortL (by kernel_rfl) (@zat ⟨True⟩ _ _ _ _ _ (by kernel_rfl) (@entry_Make_1.ok ⟨True⟩)) (ent Tryz.func65 (by kernel_rfl) rfl) (by kernel_rfl) (by kernel_rfl),ent:=ent Tryz.func64 (by kernel_rfl) rfl}

theorem entry_kind.ok:za8 Tryz.prog 60 (hdl [(false,tI)] [.sl 0 false .bool] (fun y=>entry_kind.f y)):=
  zb5 [] [⟨3,1,[],[(.norm,[.sl 2 false .bool])],0⟩] _ _ _ Tryz.func60 rfl (by kernel_rfl) (by kernel_rfl) (fun y=>by kernel_rfl)
noncomputable def entry_kind.h:Hnd Tryz.prog:={f:=60,h:=_,ok:=entry_kind.ok,ent:=ent Tryz.func60 (by kernel_rfl) rfl,v:=some (zf5 _ _ _),vok:=by intro g h;obtain rfl:=Option.some.inj h;exact zat (by kernel_rfl) entry_kind.ok,c:=true,cok:=by intro _ g h;obtain rfl:=Option.some.inj h;exact zbw (by kernel_rfl) (by kernel_rfl) entry_kind.ok}

theorem entry_sides.ok:za8 Tryz.prog 62 (hdl [(false,tI)] [.sl 0 false tI,.sl 1 false tI] (fun y=>entry_sides.f y)):=
  zb5 [] [] _ _ _ Tryz.func62 rfl (by kernel_rfl) (by kernel_rfl) (fun y=>by kernel_rfl)
noncomputable def entry_sides.h:Hnd Tryz.prog:={f:=62,h:=_,ok:=entry_sides.ok,ent:=ent Tryz.func62 (by kernel_rfl) rfl,v:=some (zf5 _ _ _),vok:=by intro g h;obtain rfl:=Option.some.inj h;exact zat (by kernel_rfl) entry_sides.ok,c:=true,cok:=by intro _ g h;obtain rfl:=Option.some.inj h;exact zbw (by kernel_rfl) (by kernel_rfl) entry_sides.ok}

theorem entry_on.ok:za8 Tryz.prog 63 (hdl [(false,tI),(false,tI),(false,tI)] [.sl 0 true tA] (fun y=>entry_on.f y.1 y.2.1 y.2.2)):=
  zb5 [] [] _ _ _ Tryz.func63 rfl (by kernel_rfl) (by kernel_rfl) (fun y=>by kernel_rfl)
noncomputable def entry_on.h:Hnd Tryz.prog:={f:=63,h:=_,ok:=entry_on.ok,ent:=ent Tryz.func63 (by kernel_rfl) rfl,v:=some (zf5 _ _ _),vok:=by intro g h;obtain rfl:=Option.some.inj h;exact zat (by kernel_rfl) entry_on.ok,c:=true,cok:=by intro _ g h;obtain rfl:=Option.some.inj h;exact zbw (by kernel_rfl) (by kernel_rfl) entry_on.ok}

theorem entry_Account_right.ok:za8 Tryz.prog 145 (hdl [(true,tA)] [.sl 0 false .bool] (fun y=>entry_Account_right.f y)):=
  zb5 [] [⟨3,1,[],[(.norm,[.sl 3 false .bool])],0⟩,⟨3,4,[],[(.norm,[.sl 2 false .bool])],0⟩,⟨3,8,[],[(.norm,[.sl 2 false .bool])],0⟩,⟨3,10,[],[(.norm,[.sl 2 false .bool])],0⟩] _ _ _ Tryz.func145 rfl (by kernel_rfl) (by kernel_rfl) (fun y=>by kernel_rfl)
noncomputable def entry_Account_right.h:Hnd Tryz.prog:={f:=145,h:=_,ok:=entry_Account_right.ok,ent:=ent Tryz.func145 (by kernel_rfl) rfl,v:=some (zf5 _ _ _),vok:=by intro g h;obtain rfl:=Option.some.inj h;exact zat (by kernel_rfl) entry_Account_right.ok,c:=true,cok:=by intro _ g h;obtain rfl:=Option.some.inj h;exact zbw (by kernel_rfl) (by kernel_rfl) entry_Account_right.ok}

theorem entry_Entry_leg.ok:za8 Tryz.prog 104 (hdl [(true,tE),(false,tI)] [.sl 0 false tI] (fun y=>entry_Entry_leg.f y.1 y.2)):=
  zb5 [entry_Account_order.h,entry_Account_right.h] [⟨3,4,[],[(.norm,[.sl 16 false .bool])],0⟩,⟨3,6,[],[(.norm,[.sl 30 false .bool])],0⟩] _ _ _ Tryz.func104 rfl (by kernel_rfl) (by kernel_rfl) (fun y=>by kernel_rfl)
noncomputable def entry_Entry_leg.h:Hnd Tryz.prog:={f:=104,h:=_,ok:=entry_Entry_leg.ok,ent:=ent Tryz.func104 (by kernel_rfl) rfl,v:=some (zf5 _ _ _),vok:=by intro g h;obtain rfl:=Option.some.inj h;exact zat (by kernel_rfl) entry_Entry_leg.ok}

theorem entry_Check.ok:za8 Tryz.prog 46 (hdl [(true,tE)] [.sl 0 false tI] (fun y=>entry_Check.f y)):=
  zb5 [entry_kind.h,entry_Entry_leg.h] [⟨3,3,[],[(.norm,[.sl 12 false .bool])],0⟩,⟨0,7,[.sl 3 false tI,.sl 26 false tI],[(.ret,[.sl 2 false tI]),(.exit 1,[.sl 3 false tI])],0⟩] _ _ _ Tryz.func46 rfl (by kernel_rfl) (by kernel_rfl) (fun y=>by kernel_rfl)
noncomputable def entry_Check.h:Hnd Tryz.prog:={f:=46,h:=_,ok:=entry_Check.ok,ent:=ent Tryz.func46 (by kernel_rfl) rfl,v:=some (zf5 _ _ _),vok:=by intro g h;obtain rfl:=Option.some.inj h;exact zat (by kernel_rfl) entry_Check.ok}

theorem path.ok:za8 Tryz.prog 61 (hdl [(false,(.slice tI))] [.sl 0 false .bool] (fun y=>path.f y)):=Sv.path_ok (fun h=>h)
noncomputable def path.h:Hnd Tryz.prog:={f:=61,h:=_,ok:=path.ok,ent:=ent Tryz.func61 (by kernel_rfl) rfl,v:=some (zf5 _ _ _),vok:=by intro g h;obtain rfl:=Option.some.inj h;exact zat (by kernel_rfl) path.ok}

theorem entry_Make.ok:za8 Tryz.prog 26 (hdl [(false,tI),(false,tI),(false,(.slice tI)),(false,tI)] [.sl 0 true tE,.sl 1 false tI] (fun y=>entry_Make.f y.1 y.2.1 y.2.2.1 y.2.2.2)):=
  zb5 [entry_Check.h,entry_kind.h,path.h,entry_sides.h,entry_on.h,sort64.h] [⟨3,3,[],[(.norm,[.sl 21 false .bool])],0⟩,⟨1,42,[.opn 1 30 2,.cl 1 0 tI,.dtc 1 1 (.row (.pair tA tI) 59)],[(.norm,[.opn 1 30 2,.cl 1 0 tI,.dtc 1 1 (.row (.pair tA tI) 59)])],0⟩,⟨0,10,[.sl 56 false tI,.opn 1 30 2,.cl 1 0 tI,.dtc 1 1 (.row (.pair tA tI) 59)],[(.exit 1,[.opn 1 30 2,.cl 1 0 tI,.dtc 1 1 (.row (.pair tA tI) 59)])],0⟩,⟨1,61,[.opn 1 30 2,.cl 1 0 tI,.dtc 1 1 (.row (.pair tA tI) 59)],[(.norm,[.opn 1 30 2,.cl 1 0 tI,.dtc 1 1 (.row (.pair tA tI) 59)])],0⟩] _ _ _ Tryz.func26 rfl (by kernel_rfl) (by kernel_rfl) (fun y=>by kernel_rfl)
noncomputable def entry_Make.h:Hnd Tryz.prog:={f:=26,h:=_,ok:=entry_Make.ok,ent:=ent Tryz.func26 (by kernel_rfl) rfl,v:=some (zf5 _ _ _),vok:=by intro g h;obtain rfl:=Option.some.inj h;exact zat (by kernel_rfl) entry_Make.ok}

theorem slices_Clone_entry_Leg.ok:za8 Tryz.prog 105 (hdl [(false,(.slice (.pair tA tI)))] [.dts 0 (.row (.pair tA tI) 59)] (fun y=>slices_Clone_entry_Leg.f y)):=
  zb5 [] [] _ _ _ Tryz.func105 rfl (by kernel_rfl) (by kernel_rfl) (fun y=>by kernel_rfl)
noncomputable def slices_Clone_entry_Leg.h:Hnd Tryz.prog:={f:=105,h:=_,ok:=slices_Clone_entry_Leg.ok,ent:=ent Tryz.func105 (by kernel_rfl) rfl}

theorem journal_copied.ok:za8 Tryz.prog 47 (hdl [(true,tE)] [.sl 0 true tE] (fun y=>journal_copied.f y)):=
  zb5 [slices_Clone_entry_Leg.h] [] _ _ _ Tryz.func47 rfl (by kernel_rfl) (by kernel_rfl) (fun y=>by kernel_rfl)
noncomputable def journal_copied.h:Hnd Tryz.prog:={f:=47,h:=_,ok:=journal_copied.ok,ent:=ent Tryz.func47 (by kernel_rfl) rfl,v:=some (zf5 _ _ _),vok:=by intro g h;obtain rfl:=Option.some.inj h;exact zat (by kernel_rfl) journal_copied.ok}

theorem arith_Sum.ok:za8 Tryz.prog 48 (hdl [(false,(.slice tI))] [.sl 0 false tI,.sl 1 false .bool] (fun y=>arith_Sum.f y)):=
  zb5 [] [⟨0,3,[.sl 4 false (.int .u64),.sl 5 false (.int .u64),.sl 11 false tI],[(.exit 0,[.sl 4 false (.int .u64),.sl 5 false (.int .u64)])],0⟩] _ _ _ Tryz.func48 rfl (by kernel_rfl) (by kernel_rfl) (fun y=>by kernel_rfl)
noncomputable def arith_Sum.h:Hnd Tryz.prog:={f:=48,h:=_,ok:=arith_Sum.ok,ent:=ent Tryz.func48 (by kernel_rfl) rfl,v:=some (zf5 _ _ _),vok:=by intro g h;obtain rfl:=Option.some.inj h;exact zat (by kernel_rfl) arith_Sum.ok}

theorem journal_New.ok:za8 Tryz.prog 20 (hdl [] [.dts 0 kP] (fun y=>journal_New.f)):=
  zb5 [] [] _ _ _ Tryz.func20 rfl (by kernel_rfl) (by kernel_rfl) (fun y=>by kernel_rfl)
noncomputable def journal_New.h:Hnd Tryz.prog:={f:=20,h:=_,ok:=journal_New.ok,ent:=ent Tryz.func20 (by kernel_rfl) rfl}

theorem journal_Journal_Post.ok:za8 Tryz.prog 10 (zen 109 kJ [(true,tE)] [(false,(.flat tI)),(false,(.flat tI))] (fun s y=>journal_Journal_Post.f s y)):=
  zah [entry_Check.h,journal_copied.h] [⟨0,9,[.sl 28 false tI],[(.ret,[.sl 4 false tI,.sl 5 false tI]),(.exit 0,[])],0⟩,⟨3,12,[],[(.norm,[.sl 47 false .bool])],0⟩,⟨0,16,[.sl 52 false tI,.mp 2 ⟨40,3,true,tA,false,tI⟩,.rwD 3 kK 106],[(.exit 2,[.mp 2 ⟨40,3,true,tA,false,tI⟩,.rwD 3 kK 106])],0⟩] _ _ _ _ _ Tryz.func10 rfl (fun s y=>by kernel_rfl)
noncomputable def journal_Journal_Post.h:Hnd Tryz.prog:={f:=10,h:=_,ok:=ze7 (p:=zu2) (zdz [entry_Check.h,journal_copied.h] [] 2 Tryz.func10 rfl) journal_Journal_Post.ok,ent:=ent Tryz.func10 (by kernel_rfl) rfl}

theorem journal_Journal_Close.ok:za8 Tryz.prog 11 (zen 109 kJ [] [(false,(.flat tI)),(false,(.flat tI))] (fun s y=>journal_Journal_Close.f s)):=
  zah [] [] _ _ _ _ _ Tryz.func11 rfl (fun s y=>by kernel_rfl)
noncomputable def journal_Journal_Close.h:Hnd Tryz.prog:={f:=11,h:=_,ok:=ze7 (p:=zu2) (zdz [] [] 1 Tryz.func11 rfl) journal_Journal_Close.ok,ent:=ent Tryz.func11 (by kernel_rfl) rfl}

noncomputable def journal_copied_2.h:Hnd Tryz.prog:={f:=47,h:=_,ok:=za9 [slices_Clone_entry_Leg.h] [] 1 Tryz.func47 rfl,ent:=ent Tryz.func47 (by kernel_rfl) rfl}

theorem journal_Journal_At.ok:za8 Tryz.prog 12 (zen 109 kJ [(false,tI)] [(true,(.flat tE)),(false,(.flat tI)),(false,(.flat tI))] (fun s y=>journal_Journal_At.f s y)):=
  zah [journal_copied_2.h] [⟨3,3,[],[(.norm,[.sl 11 false .bool])],0⟩] _ _ _ _ _ Tryz.func12 rfl (fun s y=>by kernel_rfl)
noncomputable def journal_Journal_At.h:Hnd Tryz.prog:={f:=12,h:=_,ok:=ze7 (p:=zu2) (zdz [journal_copied_2.h] [] 2 Tryz.func12 rfl) journal_Journal_At.ok,ent:=ent Tryz.func12 (by kernel_rfl) rfl}

theorem journal_Journal_Trial.ok:za8 Tryz.prog 13 (zen 109 kJ [(false,tI)] [(false,(.flat tI)),(false,(.flat tI)),(false,(.flat tI))] (fun s y=>journal_Journal_Trial.f s y)):=
  zah [arith_Sum.h] [⟨3,3,[],[(.norm,[.sl 20 false .bool])],0⟩,⟨0,7,[.dts 7 (.row tI 3),.dts 8 (.row tI 3),.sl 36 false tI],[(.exit 1,[.dts 7 (.row tI 3),.dts 8 (.row tI 3)])],0⟩,⟨2,2,[.dts 7 (.row tI 3),.dts 8 (.row tI 3)],[(.norm,[.dts 7 (.row tI 3),.dts 8 (.row tI 3)])],0⟩,⟨3,9,[],[(.norm,[.sl 47 false .bool])],0⟩,⟨0,11,[.dts 7 (.row tI 3),.dts 8 (.row tI 3),.sl 52 false tI],[(.exit 3,[.dts 7 (.row tI 3),.dts 8 (.row tI 3)])],0⟩,⟨3,18,[],[(.norm,[.sl 86 false .bool])],0⟩] _ _ _ _ _ Tryz.func13 rfl (fun s y=>by kernel_rfl)
noncomputable def journal_Journal_Trial.h:Hnd Tryz.prog:={f:=13,h:=_,ok:=ze7 (p:=zu2) (zdz [arith_Sum.h] [] 2 Tryz.func13 rfl) journal_Journal_Trial.ok,ent:=ent Tryz.func13 (by kernel_rfl) rfl}

theorem journal_Journal_Period.ok:za8 Tryz.prog 15 (zen 109 kJ [] [(false,(.flat tI))] (fun s y=>journal_Journal_Period.f s)):=
  zah [] [] _ _ _ _ _ Tryz.func15 rfl (fun s y=>by kernel_rfl)
noncomputable def journal_Journal_Period.h:Hnd Tryz.prog:={f:=15,h:=_,ok:=ze7 (p:=zu2) (zdz [] [] 1 Tryz.func15 rfl) journal_Journal_Period.ok,ent:=ent Tryz.func15 (by kernel_rfl) rfl}

theorem journal_Journal_Len.ok:za8 Tryz.prog 16 (zen 109 kJ [] [(false,(.flat tI))] (fun s y=>journal_Journal_Len.f s)):=
  zah [] [] _ _ _ _ _ Tryz.func16 rfl (fun s y=>by kernel_rfl)
noncomputable def journal_Journal_Len.h:Hnd Tryz.prog:={f:=16,h:=_,ok:=ze7 (p:=zu2) (zdz [] [] 1 Tryz.func16 rfl) journal_Journal_Len.ok,ent:=ent Tryz.func16 (by kernel_rfl) rfl}

theorem journal_Journal_Balance.ok:za8 Tryz.prog 17 (zen 109 kJ [(true,tA)] [(false,(.flat tI))] (fun s y=>journal_Journal_Balance.f s y)):=
  zah [] [] _ _ _ _ _ Tryz.func17 rfl (fun s y=>by kernel_rfl)
noncomputable def journal_Journal_Balance.h:Hnd Tryz.prog:={f:=17,h:=_,ok:=ze7 (p:=zu2) (zdz [] [] 2 Tryz.func17 rfl) journal_Journal_Balance.ok,ent:=ent Tryz.func17 (by kernel_rfl) rfl}

theorem journal_Journal_Moved.ok:za8 Tryz.prog 18 (zen 109 kJ [(true,tA),(false,tI)] [(false,(.flat tI))] (fun s y=>journal_Journal_Moved.f s y.1 y.2)):=
  zah [] [⟨3,1,[],[(.norm,[.sl 21 false .bool])],0⟩] _ _ _ _ _ Tryz.func18 rfl (fun s y=>by kernel_rfl)
noncomputable def journal_Journal_Moved.h:Hnd Tryz.prog:={f:=18,h:=_,ok:=ze7 (p:=zu2) (zdz [] [] 3 Tryz.func18 rfl) journal_Journal_Moved.ok,ent:=ent Tryz.func18 (by kernel_rfl) rfl}

theorem funds_New.ok:za8 Tryz.prog 71 (hdl [] [.dts 0 kQ] (fun y=>funds_New.f)):=
  zb5 [] [] _ _ _ Tryz.func71 rfl (by kernel_rfl) (by kernel_rfl) (fun y=>by kernel_rfl)
noncomputable def funds_New.h:Hnd Tryz.prog:={f:=71,h:=_,ok:=funds_New.ok,ent:=ent Tryz.func71 (by kernel_rfl) rfl}

theorem funds_node.ok:za8 Tryz.prog 123 (hdl [(false,tI)] [.sl 0 false .bool] (fun y=>funds_node.f y)):=
  zb5 [] [⟨3,1,[],[(.norm,[.sl 2 false .bool])],0⟩] _ _ _ Tryz.func123 rfl (by kernel_rfl) (by kernel_rfl) (fun y=>by kernel_rfl)
noncomputable def funds_node.h:Hnd Tryz.prog:={f:=123,h:=_,ok:=funds_node.ok,ent:=ent Tryz.func123 (by kernel_rfl) rfl,v:=some (zf5 _ _ _),vok:=by intro g h;obtain rfl:=Option.some.inj h;exact zat (by kernel_rfl) funds_node.ok,c:=true,cok:=by intro _ g h;obtain rfl:=Option.some.inj h;exact zbw (by kernel_rfl) (by kernel_rfl) funds_node.ok}

theorem funds_amount.ok:za8 Tryz.prog 124 (hdl [(false,tI)] [.sl 0 false .bool] (fun y=>funds_amount.f y)):=
  zb5 [] [⟨3,1,[],[(.norm,[.sl 2 false .bool])],0⟩] _ _ _ Tryz.func124 rfl (by kernel_rfl) (by kernel_rfl) (fun y=>by kernel_rfl)
noncomputable def funds_amount.h:Hnd Tryz.prog:={f:=124,h:=_,ok:=funds_amount.ok,ent:=ent Tryz.func124 (by kernel_rfl) rfl,v:=some (zf5 _ _ _),vok:=by intro g h;obtain rfl:=Option.some.inj h;exact zat (by kernel_rfl) funds_amount.ok,c:=true,cok:=by intro _ g h;obtain rfl:=Option.some.inj h;exact zbw (by kernel_rfl) (by kernel_rfl) funds_amount.ok}

theorem funds_Account_left.ok:za8 Tryz.prog 126 (hdl [(true,tV)] [.sl 0 false tI] (fun y=>funds_Account_left.f y)):=
  zb5 [] [] _ _ _ Tryz.func126 rfl (by kernel_rfl) (by kernel_rfl) (fun y=>by kernel_rfl)
noncomputable def funds_Account_left.h:Hnd Tryz.prog:={f:=126,h:=_,ok:=funds_Account_left.ok,ent:=ent Tryz.func126 (by kernel_rfl) rfl,v:=some (zf5 _ _ _),vok:=by intro g h;obtain rfl:=Option.some.inj h;exact zat (by kernel_rfl) funds_Account_left.ok,c:=true,cok:=by intro _ g h;obtain rfl:=Option.some.inj h;exact zbw (by kernel_rfl) (by kernel_rfl) funds_Account_left.ok}

theorem slices_Index___int_int.ok:za8 Tryz.prog 127 (hdl [(false,(.slice tI)),(false,tI)] [.sl 0 false tI] (fun y=>slices_Index___int_int.f y.1 y.2)):=
  zb5 [] [⟨0,2,[.sl 8 false tI],[(.ret,[.sl 4 false tI]),(.exit 0,[])],0⟩] _ _ _ Tryz.func127 rfl (by kernel_rfl) (by kernel_rfl) (fun y=>by kernel_rfl)
noncomputable def slices_Index___int_int.h:Hnd Tryz.prog:={f:=127,h:=_,ok:=slices_Index___int_int.ok,ent:=ent Tryz.func127 (by kernel_rfl) rfl,v:=some (zf5 _ _ _),vok:=by intro g h;obtain rfl:=Option.some.inj h;exact zat (by kernel_rfl) slices_Index___int_int.ok}

theorem slices_Contains___int_int.ok:za8 Tryz.prog 78 (hdl [(false,(.slice tI)),(false,tI)] [.sl 0 false .bool] (fun y=>slices_Contains___int_int.f y.1 y.2)):=
  zb5 [slices_Index___int_int.h] [] _ _ _ Tryz.func78 rfl (by kernel_rfl) (by kernel_rfl) (fun y=>by kernel_rfl)
noncomputable def slices_Contains___int_int.h:Hnd Tryz.prog:={f:=78,h:=_,ok:=slices_Contains___int_int.ok,ent:=ent Tryz.func78 (by kernel_rfl) rfl,v:=some (zf5 _ _ _),vok:=by intro g h;obtain rfl:=Option.some.inj h;exact zat (by kernel_rfl) slices_Contains___int_int.ok}

theorem funds_Book_path.ok:za8 Tryz.prog 164 (zen 175 kB [(false,(.slice tI))] [(false,(.flat .bool))] (fun s y=>funds_Book_path.f s y)):=
  zah [slices_Contains___int_int.h,funds_node.h] [⟨3,1,[],[(.norm,[.sl 18 false .bool])],0⟩,⟨0,4,[.sl 21 false tI],[(.ret,[.sl 4 false .bool]),(.exit 0,[])],0⟩,⟨3,6,[],[(.norm,[.sl 35 false .bool])],0⟩] _ _ _ _ _ Tryz.func164 rfl (fun s y=>by kernel_rfl)
noncomputable def funds_Book_path.h:Hnd Tryz.prog:={f:=164,h:=_,ok:=funds_Book_path.ok,ent:=ent Tryz.func164 (by kernel_rfl) rfl}

noncomputable def funds_Book_limited_1.h:Hnd Tryz.prog:={f:=166,h:=_,ok:=za9 [] [⟨3,1,[],[(.norm,[.sl 2 false .bool])],0⟩] 1 Tryz.func166 rfl,ent:=ent Tryz.func166 (by kernel_rfl) rfl}

noncomputable def slices_IndexFunc___int_int.h:Hnd Tryz.prog:={f:=191,h:=_,ok:=za9 [funds_Book_limited_1.h] [⟨0,2,[.sl 8 false tI],[(.ret,[.sl 4 false tI]),(.exit 0,[])],0⟩] 2 Tryz.func191 rfl,ent:=ent Tryz.func191 (by kernel_rfl) rfl}

noncomputable def slices_ContainsFunc___int_int.h:Hnd Tryz.prog:={f:=165,h:=_,ok:=za9 [slices_IndexFunc___int_int.h] [⟨3,1,[],[(.norm,[.sl 4 false .bool])],0⟩] 2 Tryz.func165 rfl,ent:=ent Tryz.func165 (by kernel_rfl) rfl}

theorem funds_Book_limited.ok:za8 Tryz.prog 128 (zen 175 kB [(false,(.slice tI)),(false,(.slice tI))] [(false,(.flat .bool))] (fun s y=>funds_Book_limited.f s y.1 y.2)):=
  zah [funds_Book_path.h,slices_ContainsFunc___int_int.h] [⟨3,1,[.opn 0 175 1,.dtc 0 0 kB],[(.norm,[.sl 17 false .bool,.opn 0 175 1,.dtc 0 0 kB])],0⟩] _ _ _ _ _ Tryz.func128 rfl (fun s y=>by kernel_rfl)
noncomputable def funds_Book_limited.h:Hnd Tryz.prog:={f:=128,h:=_,ok:=funds_Book_limited.ok,ent:=ent Tryz.func128 (by kernel_rfl) rfl}

theorem funds_Book_Get.ok:za8 Tryz.prog 98 (zen 175 kB [(false,tI)] [(true,(.flat tV))] (fun s y=>funds_Book_Get.f s y)):=
  zah [] [] _ _ _ _ _ Tryz.func98 rfl (fun s y=>by kernel_rfl)
noncomputable def funds_Book_Get.h:Hnd Tryz.prog:={f:=98,h:=_,ok:=funds_Book_Get.ok,ent:=ent Tryz.func98 (by kernel_rfl) rfl}

theorem funds_Book_Available.ok:za8 Tryz.prog 79 (zen 175 kB [(false,tI)] [(false,(.flat tI))] (fun s y=>funds_Book_Available.f s y)):=
  zah [funds_Book_Get.h,funds_Account_left.h] [] _ _ _ _ _ Tryz.func79 rfl (fun s y=>by kernel_rfl)
noncomputable def funds_Book_Available.h:Hnd Tryz.prog:={f:=79,h:=_,ok:=funds_Book_Available.ok,ent:=ent Tryz.func79 (by kernel_rfl) rfl}

theorem funds_Book_set.ok:za8 Tryz.prog 125 (zen 175 kB [(false,tI),(true,tV)] [] (fun s y=>funds_Book_set.f s y.1 y.2)):=
  zah [] [] _ _ _ _ _ Tryz.func125 rfl (fun s y=>by kernel_rfl)
noncomputable def funds_Book_set.h:Hnd Tryz.prog:={f:=125,h:=_,ok:=funds_Book_set.ok,ent:=ent Tryz.func125 (by kernel_rfl) rfl}

theorem funds_Book_TopUp.ok:za8 Tryz.prog 74 (zen 175 kB [(false,tI),(false,tI)] [(false,(.flat tI))] (fun s y=>funds_Book_TopUp.f s y.1 y.2)):=
  zah [funds_node.h,funds_amount.h,funds_Book_set.h] [⟨3,1,[],[(.norm,[.sl 19 false .bool])],0⟩] _ _ _ _ _ Tryz.func74 rfl (fun s y=>by kernel_rfl)
noncomputable def funds_Book_TopUp.h:Hnd Tryz.prog:={f:=74,h:=_,ok:=funds_Book_TopUp.ok,ent:=ent Tryz.func74 (by kernel_rfl) rfl}

theorem funds_Book_move.ok:za8 Tryz.prog 130 (zen 175 kB [(false,(.slice tI)),(true,tV)] [] (fun s y=>funds_Book_move.f s y.1 y.2)):=
  zah [funds_Book_set.h] [⟨0,2,[.sl 11 false tI,.opn 0 175 1,.dtc 0 0 kB],[(.exit 0,[.opn 0 175 1,.dtc 0 0 kB])],0⟩] _ _ _ _ _ Tryz.func130 rfl (fun s y=>by kernel_rfl)
noncomputable def funds_Book_move.h:Hnd Tryz.prog:={f:=130,h:=_,ok:=funds_Book_move.ok,ent:=ent Tryz.func130 (by kernel_rfl) rfl}

theorem funds_Book_Hold.ok:za8 Tryz.prog 82 (zen 175 kB [(false,(.slice tI)),(false,(.slice tI)),(false,tI)] [(false,(.flat tI))] (fun s y=>funds_Book_Hold.f s y.1 y.2.1 y.2.2)):=
  zah [funds_amount.h,funds_Account_left.h,funds_Book_limited.h,funds_Book_move.h] [⟨3,1,[.opn 0 175 1,.dtc 0 0 kB],[(.norm,[.sl 21 false .bool,.opn 0 175 1,.dtc 0 0 kB])],0⟩,⟨0,4,[.sl 24 false tI],[(.ret,[.sl 8 false tI]),(.exit 0,[])],0⟩,⟨3,9,[],[(.norm,[.sl 40 false .bool])],0⟩] _ _ _ _ _ Tryz.func82 rfl (fun s y=>by kernel_rfl)
noncomputable def funds_Book_Hold.h:Hnd Tryz.prog:={f:=82,h:=_,ok:=funds_Book_Hold.ok,ent:=ent Tryz.func82 (by kernel_rfl) rfl}

noncomputable def funds_held.h:Hnd Tryz.prog:={f:=132,h:=_,ok:=za9 [] [] 1 Tryz.func132 rfl,ent:=ent Tryz.func132 (by kernel_rfl) rfl}

noncomputable def funds_used.h:Hnd Tryz.prog:={f:=133,h:=_,ok:=za9 [] [] 1 Tryz.func133 rfl,ent:=ent Tryz.func133 (by kernel_rfl) rfl}

noncomputable def funds_Book_away.h:Hnd Tryz.prog:={f:=131,h:=_,ok:=za9 [funds_amount.h,funds_Book_move.h,funds_held.h,funds_used.h,funds_Book_path.h] [⟨3,1,[.opn 0 175 1,.dtc 0 0 kB],[(.norm,[.sl 21 false .bool,.opn 0 175 1,.dtc 0 0 kB])],0⟩,⟨0,4,[.sl 24 false tI],[(.ret,[.sl 10 false tI]),(.exit 0,[])],0⟩] 5 Tryz.func131 rfl,ent:=ent Tryz.func131 (by kernel_rfl) rfl}

theorem funds_Book_Release.ok:za8 Tryz.prog 84 (zen 175 kB [(false,(.slice tI)),(false,tI)] [(false,(.flat tI))] (fun s y=>funds_Book_Release.f s y.1 y.2)):=
  zah [funds_Book_away.h] [⟨3,1,[.opn 0 175 1,.dtc 0 0 kB],[(.norm,[.sl 6 false tI,.opn 0 175 1,.dtc 0 0 kB])],0⟩] _ _ _ _ _ Tryz.func84 rfl (fun s y=>by kernel_rfl)
noncomputable def funds_Book_Release.h:Hnd Tryz.prog:={f:=84,h:=_,ok:=funds_Book_Release.ok,ent:=ent Tryz.func84 (by kernel_rfl) rfl}

theorem funds_Book_Commit.ok:za8 Tryz.prog 86 (zen 175 kB [(false,(.slice tI)),(false,tI)] [(false,(.flat tI))] (fun s y=>funds_Book_Commit.f s y.1 y.2)):=
  zah [funds_Book_away.h] [⟨3,1,[.opn 0 175 1,.dtc 0 0 kB],[(.norm,[.sl 6 false tI,.opn 0 175 1,.dtc 0 0 kB])],0⟩] _ _ _ _ _ Tryz.func86 rfl (fun s y=>by kernel_rfl)
noncomputable def funds_Book_Commit.h:Hnd Tryz.prog:={f:=86,h:=_,ok:=funds_Book_Commit.ok,ent:=ent Tryz.func86 (by kernel_rfl) rfl}

theorem funds_Book_Refund.ok:za8 Tryz.prog 88 (zen 175 kB [(false,(.slice tI)),(false,tI)] [(false,(.flat tI))] (fun s y=>funds_Book_Refund.f s y.1 y.2)):=
  zah [funds_Book_away.h] [⟨3,1,[.opn 0 175 1,.dtc 0 0 kB],[(.norm,[.sl 6 false tI,.opn 0 175 1,.dtc 0 0 kB])],0⟩] _ _ _ _ _ Tryz.func88 rfl (fun s y=>by kernel_rfl)
noncomputable def funds_Book_Refund.h:Hnd Tryz.prog:={f:=88,h:=_,ok:=funds_Book_Refund.ok,ent:=ent Tryz.func88 (by kernel_rfl) rfl}

theorem funds_within.ok:za8 Tryz.prog 172 (hdl [(false,tI)] [.sl 0 false .bool] (fun y=>funds_within.f y)):=
  zb5 [] [⟨3,1,[],[(.norm,[.sl 2 false .bool])],0⟩] _ _ _ Tryz.func172 rfl (by kernel_rfl) (by kernel_rfl) (fun y=>by kernel_rfl)
noncomputable def funds_within.h:Hnd Tryz.prog:={f:=172,h:=_,ok:=funds_within.ok,ent:=ent Tryz.func172 (by kernel_rfl) rfl,v:=some (zf5 _ _ _),vok:=by intro g h;obtain rfl:=Option.some.inj h;exact zat (by kernel_rfl) funds_within.ok,c:=true,cok:=by intro _ g h;obtain rfl:=Option.some.inj h;exact zbw (by kernel_rfl) (by kernel_rfl) funds_within.ok}

theorem funds_Account_right.ok:za8 Tryz.prog 143 (hdl [(true,tV)] [.sl 0 false .bool] (fun y=>funds_Account_right.f y)):=
  zb5 [funds_Account_left.h,funds_within.h] [⟨0,2,[.sl 17 false tI],[(.ret,[.sl 2 false .bool]),(.exit 0,[])],0⟩,⟨3,7,[],[(.norm,[.sl 2 false .bool])],0⟩] _ _ _ Tryz.func143 rfl (by kernel_rfl) (by kernel_rfl) (fun y=>by kernel_rfl)
noncomputable def funds_Account_right.h:Hnd Tryz.prog:={f:=143,h:=_,ok:=funds_Account_right.ok,ent:=ent Tryz.func143 (by kernel_rfl) rfl,v:=some (zf5 _ _ _),vok:=by intro g h;obtain rfl:=Option.some.inj h;exact zat (by kernel_rfl) funds_Account_right.ok,c:=true,cok:=by intro _ g h;obtain rfl:=Option.some.inj h;exact zbw (by kernel_rfl) (by kernel_rfl) funds_Account_right.ok}

theorem funds_Book_Set.ok:za8 Tryz.prog 101 (zen 175 kB [(false,tI),(true,tV)] [(false,(.flat tI))] (fun s y=>funds_Book_Set.f s y.1 y.2)):=
  zah [funds_node.h,funds_Book_set.h,funds_Account_right.h] [⟨3,1,[],[(.norm,[.sl 18 false .bool])],0⟩] _ _ _ _ _ Tryz.func101 rfl (fun s y=>by kernel_rfl)
noncomputable def funds_Book_Set.h:Hnd Tryz.prog:={f:=101,h:=_,ok:=funds_Book_Set.ok,ent:=ent Tryz.func101 (by kernel_rfl) rfl}

theorem period_New.ok:za8 Tryz.prog 29 (hdl [] [.dts 0 (.ptr 145 (.pair kQ kP))] (fun y=>period_New.f)):=
  zb5 [journal_New.h,funds_New.h] [] _ _ _ Tryz.func29 rfl (by kernel_rfl) (by kernel_rfl) (fun y=>by kernel_rfl)
noncomputable def period_New.h:Hnd Tryz.prog:={f:=29,h:=_,ok:=period_New.ok,ent:=ent Tryz.func29 (by kernel_rfl) rfl}

theorem period_Purse_post.ok:za8 Tryz.prog 121 (zen 145 (.pair kQ kP) [(false,tI),(false,tI),(false,(.slice tI)),(false,tI)] [(false,(.flat tI))] (fun s y=>period_Purse_post.f s y.1 y.2.1 y.2.2.1 y.2.2.2)):=
  zah [journal_Journal_Post.h,entry_Make.h] [] _ _ _ _ _ Tryz.func121 rfl (fun s y=>by kernel_rfl)
noncomputable def period_Purse_post.h:Hnd Tryz.prog:={f:=121,h:=_,ok:=period_Purse_post.ok,ent:=ent Tryz.func121 (by kernel_rfl) rfl}

noncomputable def period_Purse_TopUp_1.h:Hnd Tryz.prog:={f:=73,h:=_,ok:=za9 [funds_Book_TopUp.h] [] 3 Tryz.func73 rfl,ent:=ent Tryz.func73 (by kernel_rfl) rfl}

noncomputable def period_Purse_saved.h:Hnd Tryz.prog:={f:=120,h:=_,ok:=za9 [funds_Book_Get.h] [⟨0,3,[.sl 11 false tI,.opn 1 175 1,.dtc 1 0 kB,.mp 1000 ⟨3,97,false,tI,true,tV⟩],[(.exit 0,[.opn 1 175 1,.dtc 1 0 kB,.mp 1000 ⟨3,97,false,tI,true,tV⟩])],0⟩] 2 Tryz.func120 rfl,ent:=ent Tryz.func120 (by kernel_rfl) rfl}

noncomputable def period_Purse_restore.h:Hnd Tryz.prog:={f:=122,h:=_,ok:=za9 [funds_Book_Set.h] [⟨5,1,[.opn 14 175 1,.dtc 14 0 kB],[(.exit 0,[.opn 14 175 1,.dtc 14 0 kB])],0⟩] 2 Tryz.func122 rfl,ent:=ent Tryz.func122 (by kernel_rfl) rfl}

noncomputable def period_Purse_both.h:Hnd Tryz.prog:={f:=72,h:=_,ok:=za9 [period_Purse_TopUp_1.h,period_Purse_saved.h,period_Purse_post.h,period_Purse_restore.h] [] 6 Tryz.func72 rfl,ent:=ent Tryz.func72 (by kernel_rfl) rfl}

theorem period_Purse_TopUp.ok:za8 Tryz.prog 31 (zen 145 (.pair kQ kP) [(false,tI),(false,tI)] [(false,(.flat tI))] (fun s y=>period_Purse_TopUp.f s y.1 y.2)):=
  zah [period_Purse_both.h] [⟨3,1,[.opn 0 145 2,.dtc 0 0 kQ,.dtc 0 1 kP],[(.norm,[.sl 6 false tI,.opn 0 145 2,.dtc 0 0 kQ,.dtc 0 1 kP])],0⟩] _ _ _ _ _ Tryz.func31 rfl (fun s y=>by kernel_rfl)
noncomputable def period_Purse_TopUp.h:Hnd Tryz.prog:={f:=31,h:=_,ok:=ze7 (p:=zu2) (zdz [period_Purse_both.h] [] 3 Tryz.func31 rfl) period_Purse_TopUp.ok,ent:=ent Tryz.func31 (by kernel_rfl) rfl}

noncomputable def period_Purse_Hold_1.h:Hnd Tryz.prog:={f:=81,h:=_,ok:=za9 [funds_Book_Hold.h] [] 4 Tryz.func81 rfl,ent:=ent Tryz.func81 (by kernel_rfl) rfl}

noncomputable def period_Purse_saved_2.h:Hnd Tryz.prog:={f:=120,h:=_,ok:=za9 [funds_Book_Get.h] [⟨0,3,[.sl 11 false tI,.opn 1 175 1,.dtc 1 0 kB,.mp 1000 ⟨3,97,false,tI,true,tV⟩],[(.exit 0,[.opn 1 175 1,.dtc 1 0 kB,.mp 1000 ⟨3,97,false,tI,true,tV⟩])],0⟩] 2 Tryz.func120 rfl,ent:=ent Tryz.func120 (by kernel_rfl) rfl}

noncomputable def period_Purse_restore_2.h:Hnd Tryz.prog:={f:=122,h:=_,ok:=za9 [funds_Book_Set.h] [⟨5,1,[.opn 14 175 1,.dtc 14 0 kB],[(.exit 0,[.opn 14 175 1,.dtc 14 0 kB])],0⟩] 2 Tryz.func122 rfl,ent:=ent Tryz.func122 (by kernel_rfl) rfl}

noncomputable def period_Purse_both_2.h:Hnd Tryz.prog:={f:=72,h:=_,ok:=za9 [period_Purse_Hold_1.h,period_Purse_saved_2.h,period_Purse_post.h,period_Purse_restore_2.h] [] 6 Tryz.func72 rfl,ent:=ent Tryz.func72 (by kernel_rfl) rfl}

theorem period_Purse_Hold.ok:za8 Tryz.prog 37 (zen 145 (.pair kQ kP) [(false,(.slice tI)),(false,(.slice tI)),(false,tI)] [(false,(.flat tI))] (fun s y=>period_Purse_Hold.f s y.1 y.2.1 y.2.2)):=
  zah [period_Purse_both_2.h] [⟨3,1,[.opn 0 145 2,.dtc 0 0 kQ,.dtc 0 1 kP],[(.norm,[.sl 8 false tI,.opn 0 145 2,.dtc 0 0 kQ,.dtc 0 1 kP])],0⟩] _ _ _ _ _ Tryz.func37 rfl (fun s y=>by kernel_rfl)
noncomputable def period_Purse_Hold.h:Hnd Tryz.prog:={f:=37,h:=_,ok:=ze7 (p:=zu2) (zdz [period_Purse_both_2.h] [] 4 Tryz.func37 rfl) period_Purse_Hold.ok,ent:=ent Tryz.func37 (by kernel_rfl) rfl}

noncomputable def period_Purse_Release_1.h:Hnd Tryz.prog:={f:=83,h:=_,ok:=za9 [funds_Book_Release.h] [] 3 Tryz.func83 rfl,ent:=ent Tryz.func83 (by kernel_rfl) rfl}

noncomputable def period_Purse_saved_3.h:Hnd Tryz.prog:={f:=120,h:=_,ok:=za9 [funds_Book_Get.h] [⟨0,3,[.sl 11 false tI,.opn 1 175 1,.dtc 1 0 kB,.mp 1000 ⟨3,97,false,tI,true,tV⟩],[(.exit 0,[.opn 1 175 1,.dtc 1 0 kB,.mp 1000 ⟨3,97,false,tI,true,tV⟩])],0⟩] 2 Tryz.func120 rfl,ent:=ent Tryz.func120 (by kernel_rfl) rfl}

noncomputable def period_Purse_restore_3.h:Hnd Tryz.prog:={f:=122,h:=_,ok:=za9 [funds_Book_Set.h] [⟨5,1,[.opn 13 175 1,.dtc 13 0 kB],[(.exit 0,[.opn 13 175 1,.dtc 13 0 kB])],0⟩] 2 Tryz.func122 rfl,ent:=ent Tryz.func122 (by kernel_rfl) rfl}

noncomputable def period_Purse_both_3.h:Hnd Tryz.prog:={f:=72,h:=_,ok:=za9 [period_Purse_Release_1.h,period_Purse_saved_3.h,period_Purse_post.h,period_Purse_restore_3.h] [] 6 Tryz.func72 rfl,ent:=ent Tryz.func72 (by kernel_rfl) rfl}

theorem period_Purse_Release.ok:za8 Tryz.prog 38 (zen 145 (.pair kQ kP) [(false,(.slice tI)),(false,tI)] [(false,(.flat tI))] (fun s y=>period_Purse_Release.f s y.1 y.2)):=
  zah [period_Purse_both_3.h] [⟨3,1,[.opn 0 145 2,.dtc 0 0 kQ,.dtc 0 1 kP],[(.norm,[.sl 6 false tI,.opn 0 145 2,.dtc 0 0 kQ,.dtc 0 1 kP])],0⟩] _ _ _ _ _ Tryz.func38 rfl (fun s y=>by kernel_rfl)
noncomputable def period_Purse_Release.h:Hnd Tryz.prog:={f:=38,h:=_,ok:=ze7 (p:=zu2) (zdz [period_Purse_both_3.h] [] 3 Tryz.func38 rfl) period_Purse_Release.ok,ent:=ent Tryz.func38 (by kernel_rfl) rfl}

noncomputable def period_Purse_Commit_1.h:Hnd Tryz.prog:={f:=85,h:=_,ok:=za9 [funds_Book_Commit.h] [] 3 Tryz.func85 rfl,ent:=ent Tryz.func85 (by kernel_rfl) rfl}

noncomputable def period_Purse_saved_4.h:Hnd Tryz.prog:={f:=120,h:=_,ok:=za9 [funds_Book_Get.h] [⟨0,3,[.sl 11 false tI,.opn 1 175 1,.dtc 1 0 kB,.mp 1000 ⟨3,97,false,tI,true,tV⟩],[(.exit 0,[.opn 1 175 1,.dtc 1 0 kB,.mp 1000 ⟨3,97,false,tI,true,tV⟩])],0⟩] 2 Tryz.func120 rfl,ent:=ent Tryz.func120 (by kernel_rfl) rfl}

noncomputable def period_Purse_restore_4.h:Hnd Tryz.prog:={f:=122,h:=_,ok:=za9 [funds_Book_Set.h] [⟨5,1,[.opn 13 175 1,.dtc 13 0 kB],[(.exit 0,[.opn 13 175 1,.dtc 13 0 kB])],0⟩] 2 Tryz.func122 rfl,ent:=ent Tryz.func122 (by kernel_rfl) rfl}

noncomputable def period_Purse_both_4.h:Hnd Tryz.prog:={f:=72,h:=_,ok:=za9 [period_Purse_Commit_1.h,period_Purse_saved_4.h,period_Purse_post.h,period_Purse_restore_4.h] [] 6 Tryz.func72 rfl,ent:=ent Tryz.func72 (by kernel_rfl) rfl}

theorem period_Purse_Commit.ok:za8 Tryz.prog 39 (zen 145 (.pair kQ kP) [(false,(.slice tI)),(false,tI),(false,tI)] [(false,(.flat tI))] (fun s y=>period_Purse_Commit.f s y.1 y.2.1 y.2.2)):=
  zah [period_Purse_both_4.h] [⟨3,1,[.opn 0 145 2,.dtc 0 0 kQ,.dtc 0 1 kP],[(.norm,[.sl 8 false tI,.opn 0 145 2,.dtc 0 0 kQ,.dtc 0 1 kP])],0⟩] _ _ _ _ _ Tryz.func39 rfl (fun s y=>by kernel_rfl)
noncomputable def period_Purse_Commit.h:Hnd Tryz.prog:={f:=39,h:=_,ok:=ze7 (p:=zu2) (zdz [period_Purse_both_4.h] [] 4 Tryz.func39 rfl) period_Purse_Commit.ok,ent:=ent Tryz.func39 (by kernel_rfl) rfl}

noncomputable def period_Purse_Refund_1.h:Hnd Tryz.prog:={f:=87,h:=_,ok:=za9 [funds_Book_Refund.h] [] 3 Tryz.func87 rfl,ent:=ent Tryz.func87 (by kernel_rfl) rfl}

noncomputable def period_Purse_saved_5.h:Hnd Tryz.prog:={f:=120,h:=_,ok:=za9 [funds_Book_Get.h] [⟨0,3,[.sl 11 false tI,.opn 1 175 1,.dtc 1 0 kB,.mp 1000 ⟨3,97,false,tI,true,tV⟩],[(.exit 0,[.opn 1 175 1,.dtc 1 0 kB,.mp 1000 ⟨3,97,false,tI,true,tV⟩])],0⟩] 2 Tryz.func120 rfl,ent:=ent Tryz.func120 (by kernel_rfl) rfl}

noncomputable def period_Purse_restore_5.h:Hnd Tryz.prog:={f:=122,h:=_,ok:=za9 [funds_Book_Set.h] [⟨5,1,[.opn 13 175 1,.dtc 13 0 kB],[(.exit 0,[.opn 13 175 1,.dtc 13 0 kB])],0⟩] 2 Tryz.func122 rfl,ent:=ent Tryz.func122 (by kernel_rfl) rfl}

noncomputable def period_Purse_both_5.h:Hnd Tryz.prog:={f:=72,h:=_,ok:=za9 [period_Purse_Refund_1.h,period_Purse_saved_5.h,period_Purse_post.h,period_Purse_restore_5.h] [] 6 Tryz.func72 rfl,ent:=ent Tryz.func72 (by kernel_rfl) rfl}

theorem period_Purse_Refund.ok:za8 Tryz.prog 40 (zen 145 (.pair kQ kP) [(false,(.slice tI)),(false,tI),(false,tI)] [(false,(.flat tI))] (fun s y=>period_Purse_Refund.f s y.1 y.2.1 y.2.2)):=
  zah [period_Purse_both_5.h] [⟨3,1,[.opn 0 145 2,.dtc 0 0 kQ,.dtc 0 1 kP],[(.norm,[.sl 8 false tI,.opn 0 145 2,.dtc 0 0 kQ,.dtc 0 1 kP])],0⟩] _ _ _ _ _ Tryz.func40 rfl (fun s y=>by kernel_rfl)
noncomputable def period_Purse_Refund.h:Hnd Tryz.prog:={f:=40,h:=_,ok:=ze7 (p:=zu2) (zdz [period_Purse_both_5.h] [] 4 Tryz.func40 rfl) period_Purse_Refund.ok,ent:=ent Tryz.func40 (by kernel_rfl) rfl}

theorem period_Purse_Get.ok:za8 Tryz.prog 44 (zen 145 (.pair kQ kP) [(false,tI)] [(true,(.flat tV))] (fun s y=>period_Purse_Get.f s y)):=
  zah [funds_Book_Get.h] [] _ _ _ _ _ Tryz.func44 rfl (fun s y=>by kernel_rfl)
noncomputable def period_Purse_Get.h:Hnd Tryz.prog:={f:=44,h:=_,ok:=period_Purse_Get.ok,ent:=ent Tryz.func44 (by kernel_rfl) rfl}

noncomputable def keys140.h:Hnd Tryz.prog:={f:=140,h:=Kv142.keysHdl,ok:=Kv142.keys_ok (fun h=>h),ent:=ent Tryz.func140 (by kernel_rfl) rfl}

noncomputable def sort141.h:Hnd Tryz.prog:={f:=141,h:=zla,ok:=Sx,ent:=ent Tryz.func141 (by kernel_rfl) rfl}

theorem funds_Book_Roll.ok:za8 Tryz.prog 77 (zen 175 kB [(false,tI),(false,.bool)] [(false,(.flat tI)),(false,(.flat tI))] (fun s y=>funds_Book_Roll.f s y.1 y.2)):=
  zah [funds_node.h,funds_Book_set.h,funds_Account_left.h] [⟨1,24,[],[(.norm,[.sl 9 false tI])],0⟩] _ _ _ _ _ Tryz.func77 rfl (fun s y=>by kernel_rfl)
noncomputable def funds_Book_Roll.h:Hnd Tryz.prog:={f:=77,h:=_,ok:=funds_Book_Roll.ok,ent:=ent Tryz.func77 (by kernel_rfl) rfl}

noncomputable def slices_Sorted_int.h:Hnd Tryz.prog:={f:=99,h:=_,ok:=za9 [keys140.h,sort141.h] [] 1 Tryz.func99 rfl,ent:=ent Tryz.func99 (by kernel_rfl) rfl}

noncomputable def maps_Keys_funds_Account.h:Hnd Tryz.prog:={f:=100,h:=_,ok:=za9 [] [] 1 Tryz.func100 rfl,ent:=ent Tryz.func100 (by kernel_rfl) rfl}

noncomputable def funds_Book_Nodes.h:Hnd Tryz.prog:={f:=76,h:=_,ok:=za9 [slices_Sorted_int.h,maps_Keys_funds_Account.h] [] 1 Tryz.func76 rfl,ent:=ent Tryz.func76 (by kernel_rfl) rfl}

noncomputable def period_Purse_gone.h:Hnd Tryz.prog:={f:=75,h:=_,ok:=za9 [entry_Make.h,funds_Book_Nodes.h,slices_Contains___int_int.h,funds_Book_Available.h] [⟨0,3,[.dts 5 (.row tE 30),.sl 17 false tI,.opn 1 175 1,.dtc 1 0 kB],[(.exit 0,[.dts 5 (.row tE 30),.opn 1 175 1,.dtc 1 0 kB])],0⟩,⟨2,1,[.dts 5 (.row tE 30),.opn 1 175 1,.dtc 1 0 kB],[(.norm,[.dts 5 (.row tE 30),.opn 1 175 1,.dtc 1 0 kB])],0⟩,⟨3,6,[],[(.norm,[.sl 33 false .bool])],0⟩,⟨1,42,[.dts 5 (.row tE 30)],[(.norm,[.dts 5 (.row tE 30)])],0⟩] 2 Tryz.func75 rfl,ent:=ent Tryz.func75 (by kernel_rfl) rfl}

theorem period_Purse_Roll.ok:za8 Tryz.prog 32 (zen 145 (.pair kQ kP) [(false,(.slice tI))] [(false,(.flat tI)),(false,(.flat tI))] (fun s y=>period_Purse_Roll.f s y)):=
  zah [journal_Journal_Post.h,journal_Journal_Close.h,journal_Journal_Period.h,journal_Journal_Len.h,period_Purse_gone.h,funds_Book_Nodes.h,funds_Book_Roll.h,slices_Contains___int_int.h] [⟨3,4,[.opn 3 109 4,.dtc 3 0 kR,.cl 3 1 tI,.dtc 3 2 kK,.dtc 3 3 kM],[(.norm,[.sl 36 false .bool,.opn 3 109 4,.dtc 3 0 kR,.cl 3 1 tI,.dtc 3 2 kK,.dtc 3 3 kM])],0⟩,⟨0,7,[.sl 39 false tI,.opn 3 109 4,.dtc 3 0 kR,.cl 3 1 tI,.dtc 3 2 kK,.dtc 3 3 kM],[(.exit 0,[.opn 3 109 4,.dtc 3 0 kR,.cl 3 1 tI,.dtc 3 2 kK,.dtc 3 3 kM])],0⟩,⟨0,13,[.sl 9 false tI,.sl 56 false tI,.opn 1 175 1,.dtc 1 0 kB],[(.exit 2,[.sl 9 false tI,.opn 1 175 1,.dtc 1 0 kB])],0⟩,⟨1,73,[],[(.norm,[.sl 9 false tI])],0⟩] _ _ _ _ _ Tryz.func32 rfl (fun s y=>by kernel_rfl)
noncomputable def period_Purse_Roll.h:Hnd Tryz.prog:={f:=32,h:=_,ok:=ze7 (p:=zu2) (zdz [journal_Journal_Post.h,journal_Journal_Close.h,journal_Journal_Period.h,journal_Journal_Len.h,period_Purse_gone.h,funds_Book_Nodes.h,funds_Book_Roll.h,slices_Contains___int_int.h] [] 2 Tryz.func32 rfl) period_Purse_Roll.ok,ent:=ent Tryz.func32 (by kernel_rfl) rfl}

theorem period_Purse_Available.ok:za8 Tryz.prog 33 (zen 145 (.pair kQ kP) [(false,tI)] [(false,(.flat tI))] (fun s y=>period_Purse_Available.f s y)):=
  zah [funds_Book_Available.h] [] _ _ _ _ _ Tryz.func33 rfl (fun s y=>by kernel_rfl)
noncomputable def period_Purse_Available.h:Hnd Tryz.prog:={f:=33,h:=_,ok:=ze7 (p:=zu2) (zdz [funds_Book_Available.h] [] 2 Tryz.func33 rfl) period_Purse_Available.ok,ent:=ent Tryz.func33 (by kernel_rfl) rfl}

theorem period_Purse_Nodes.ok:za8 Tryz.prog 41 (zen 145 (.pair kQ kP) [] [(false,(.row tI 3))] (fun s y=>period_Purse_Nodes.f s)):=
  zah [funds_Book_Nodes.h] [] _ _ _ _ _ Tryz.func41 rfl (fun s y=>by kernel_rfl)
noncomputable def period_Purse_Nodes.h:Hnd Tryz.prog:={f:=41,h:=_,ok:=ze7 (p:=zu2) (zdz [funds_Book_Nodes.h] [] 1 Tryz.func41 rfl) period_Purse_Nodes.ok,ent:=ent Tryz.func41 (by kernel_rfl) rfl}

noncomputable def period_Purse_Journal.h:Hnd Tryz.prog:={f:=34,h:=_,ok:=za9 [] [] 1 Tryz.func34 rfl,ent:=ent Tryz.func34 (by kernel_rfl) rfl}

theorem purserlaw15_purses.ok:za8 Tryz.prog 30 (hdl [] [.sl 0 false .bool] (fun y=>purserlaw15_purses.f)):=
  zb5 [journal_Journal_Balance.h,period_New.h,period_Purse_TopUp.h,period_Purse_Available.h,period_Purse_Journal.h,period_Purse_Hold.h,period_Purse_Commit.h,period_Purse_Get.h] [⟨3,5,[.opn 0 145 2,.dtc 0 0 kQ,.dtc 0 1 kP],[(.norm,[.sl 0 false .bool,.opn 0 145 2,.dtc 0 0 kQ,.dtc 0 1 kP])],0⟩] _ _ _ Tryz.func30 rfl (by kernel_rfl) (by kernel_rfl) (fun y=>by kernel_rfl)
noncomputable def purserlaw15_purses.h:Hnd Tryz.prog:={f:=30,h:=_,ok:=purserlaw15_purses.ok,ent:=ent Tryz.func30 (by kernel_rfl) rfl,v:=some (zf5 _ _ _),vok:=by intro g h;obtain rfl:=Option.some.inj h;exact zat (by kernel_rfl) purserlaw15_purses.ok,c:=true,cok:=by intro _ g h;obtain rfl:=Option.some.inj h;exact zbw (by kernel_rfl) (by kernel_rfl) purserlaw15_purses.ok}

theorem purserref08_same.ok:za8 Tryz.prog 112 (hdl [(true,(.pair tI tA)),(true,(.pair tI tA))] [.sl 0 false .bool] (fun y=>purserref08_same.f y.1 y.2)):=
  zb5 [] [⟨3,1,[],[(.norm,[.sl 4 false .bool])],0⟩] _ _ _ Tryz.func112 rfl (by kernel_rfl) (by kernel_rfl) (fun y=>by kernel_rfl)
noncomputable def purserref08_same.h:Hnd Tryz.prog:={f:=112,h:=_,ok:=purserref08_same.ok,ent:=ent Tryz.func112 (by kernel_rfl) rfl,v:=some (zf5 _ _ _),vok:=by intro g h;obtain rfl:=Option.some.inj h;exact zat (by kernel_rfl) purserref08_same.ok,c:=true,cok:=by intro _ g h;obtain rfl:=Option.some.inj h;exact zbw (by kernel_rfl) (by kernel_rfl) purserref08_same.ok}

theorem purserref07_account.ok:za8 Tryz.prog 111 (hdl [(true,(.pair tI tA))] [.sl 0 false .bool] (fun y=>purserref07_account.f y)):=
  zb5 [] [⟨3,1,[],[(.norm,[.sl 3 false .bool])],0⟩,⟨3,4,[],[(.norm,[.sl 2 false .bool])],0⟩,⟨3,8,[],[(.norm,[.sl 2 false .bool])],0⟩,⟨3,10,[],[(.norm,[.sl 2 false .bool])],0⟩] _ _ _ Tryz.func111 rfl (by kernel_rfl) (by kernel_rfl) (fun y=>by kernel_rfl)
noncomputable def purserref07_account.h:Hnd Tryz.prog:={f:=111,h:=_,ok:=purserref07_account.ok,ent:=ent Tryz.func111 (by kernel_rfl) rfl,v:=some (zf5 _ _ _),vok:=by intro g h;obtain rfl:=Option.some.inj h;exact zat (by kernel_rfl) purserref07_account.ok,c:=true,cok:=by intro _ g h;obtain rfl:=Option.some.inj h;exact zbw (by kernel_rfl) (by kernel_rfl) purserref07_account.ok}

theorem purserref07_rises.ok:za8 Tryz.prog 67 (hdl [(true,(.pair tI tA)),(true,(.pair tI tA))] [.sl 0 false .bool] (fun y=>purserref07_rises.f y.1 y.2)):=
  zb5 [] [] _ _ _ Tryz.func67 rfl (by kernel_rfl) (by kernel_rfl) (fun y=>by kernel_rfl)
noncomputable def purserref07_rises.h:Hnd Tryz.prog:={f:=67,h:=_,ok:=purserref07_rises.ok,ent:=ent Tryz.func67 (by kernel_rfl) rfl,v:=some (zf5 _ _ _),vok:=by intro g h;obtain rfl:=Option.some.inj h;exact zat (by kernel_rfl) purserref07_rises.ok,c:=true,cok:=by intro _ g h;obtain rfl:=Option.some.inj h;exact zbw (by kernel_rfl) (by kernel_rfl) purserref07_rises.ok}

theorem purserref07_Check.ok:za8 Tryz.prog 54 (hdl [(true,tF)] [.sl 0 false tI] (fun y=>purserref07_Check.f y)):=
  zb5 [purserref07_rises.h,purserref07_account.h] [⟨3,1,[],[(.norm,[.sl 13 false .bool])],0⟩,⟨3,3,[],[(.norm,[.sl 23 false .bool])],0⟩,⟨0,7,[.sl 3 false tI,.sl 4 false tI],[(.ret,[.sl 2 false tI]),(.exit 0,[.sl 3 false tI])],0⟩,⟨3,12,[],[(.norm,[.sl 51 false .bool])],0⟩,⟨3,14,[],[(.norm,[.sl 64 false .bool])],0⟩] _ _ _ Tryz.func54 rfl (by kernel_rfl) (by kernel_rfl) (fun y=>by kernel_rfl)
noncomputable def purserref07_Check.h:Hnd Tryz.prog:={f:=54,h:=_,ok:=purserref07_Check.ok,ent:=ent Tryz.func54 (by kernel_rfl) rfl,v:=some (zf5 _ _ _),vok:=by intro g h;obtain rfl:=Option.some.inj h;exact zat (by kernel_rfl) purserref07_Check.ok}

theorem purserref07_Make.ok:za8 Tryz.prog 27 (hdl [(false,tI),(false,tI),(false,(.slice tI)),(false,tI)] [.sl 0 true tF,.sl 1 false tI] (fun y=>purserref07_Make.f y.1 y.2.1 y.2.2.1 y.2.2.2)):=
  zb5 [purserref07_Check.h,purserref07_rises.h] [⟨3,1,[],[(.norm,[.sl 26 false .bool])],0⟩,⟨3,3,[],[(.norm,[.sl 10 false .bool])],0⟩,⟨0,5,[.sl 10 false .bool,.sl 11 false tI],[(.exit 0,[.sl 10 false .bool])],0⟩,⟨3,5,[],[(.norm,[.sl 51 false .bool])],0⟩,⟨0,8,[.sl 10 false .bool,.sl 12 false tI],[(.exit 2,[.sl 10 false .bool])],0⟩,⟨3,10,[],[(.norm,[.sl 10 false .bool])],0⟩,⟨1,82,[.opn 1 52 2,.cl 1 0 tI,.dtc 1 1 (.row (.pair tI tA) 61)],[(.norm,[.opn 1 52 2,.cl 1 0 tI,.dtc 1 1 (.row (.pair tI tA) 61)])],0⟩,⟨0,19,[.sl 16 false tI,.opn 1 52 2,.cl 1 0 tI,.dtc 1 1 (.row (.pair tI tA) 61)],[(.exit 4,[.opn 1 52 2,.cl 1 0 tI,.dtc 1 1 (.row (.pair tI tA) 61)])],0⟩,⟨0,22,[.sl 17 false tI,.opn 1 52 2,.cl 1 0 tI,.dtc 1 1 (.row (.pair tI tA) 61)],[(.exit 6,[.opn 1 52 2,.cl 1 0 tI,.dtc 1 1 (.row (.pair tI tA) 61)])],0⟩,⟨2,7,[.opn 1 52 2,.cl 1 0 tI,.dtc 1 1 (.row (.pair tI tA) 61)],[(.norm,[.opn 1 52 2,.cl 1 0 tI,.dtc 1 1 (.row (.pair tI tA) 61)])],0⟩,⟨1,111,[.dtb 5 61 (.flat (.pair tI tA))],[(.norm,[.dtb 5 61 (.flat (.pair tI tA))])],0⟩,⟨1,119,[.dtb 5 61 (.flat (.pair tI tA))],[(.norm,[.dtb 5 61 (.flat (.pair tI tA))])],0⟩,⟨0,32,[.sl 19 false tI,.rw 7 (.pair tI tA) 61],[(.exit 8,[.rw 7 (.pair tI tA) 61])],0⟩,⟨3,32,[],[(.norm,[.sl 145 false .bool])],0⟩] _ _ _ Tryz.func27 rfl (by kernel_rfl) (by kernel_rfl) (fun y=>by kernel_rfl)
noncomputable def purserref07_Make.h:Hnd Tryz.prog:={f:=27,h:=_,ok:=purserref07_Make.ok,ent:=ent Tryz.func27 (by kernel_rfl) rfl,v:=some (zf5 _ _ _),vok:=by intro g h;obtain rfl:=Option.some.inj h;exact zat (by kernel_rfl) purserref07_Make.ok}

theorem purserref08_Journal_DocClose.ok:za8 Tryz.prog 21 (zen 48 (.pair kE (.pair (.row tI 3) (.flat tI))) [] [(false,(.flat tI)),(false,(.flat tI))] (fun s y=>purserref08_Journal_DocClose.f s)):=
  zah [] [] _ _ _ _ _ Tryz.func21 rfl (fun s y=>by kernel_rfl)
noncomputable def purserref08_Journal_DocClose.h:Hnd Tryz.prog:={f:=21,h:=_,ok:=purserref08_Journal_DocClose.ok,ent:=ent Tryz.func21 (by kernel_rfl) rfl}

theorem purserref08_Journal_Moved.ok:za8 Tryz.prog 55 (zen 48 (.pair kE (.pair (.row tI 3) (.flat tI))) [(true,(.pair tI tA)),(false,tI)] [(false,(.flat tI))] (fun s y=>purserref08_Journal_Moved.f s y.1 y.2)):=
  zah [purserref08_same.h] [⟨0,3,[.sl 7 false tI,.sl 8 false tI],[(.exit 0,[.sl 7 false tI])],0⟩,⟨2,1,[],[(.norm,[.sl 7 false tI])],0⟩,⟨3,5,[],[(.norm,[.sl 31 false .bool])],0⟩,⟨0,7,[.sl 7 false tI,.sl 9 false tI],[(.exit 2,[.sl 7 false tI])],0⟩,⟨1,57,[],[(.norm,[.sl 7 false tI])],0⟩] _ _ _ _ _ Tryz.func55 rfl (fun s y=>by kernel_rfl)
noncomputable def purserref08_Journal_Moved.h:Hnd Tryz.prog:={f:=55,h:=_,ok:=purserref08_Journal_Moved.ok,ent:=ent Tryz.func55 (by kernel_rfl) rfl}

theorem purserref14_Node.ok:za8 Tryz.prog 167 (hdl [(false,tI)] [.sl 0 false .bool] (fun y=>purserref14_Node.f y)):=
  zb5 [] [⟨3,1,[],[(.norm,[.sl 2 false .bool])],0⟩] _ _ _ Tryz.func167 rfl (by kernel_rfl) (by kernel_rfl) (fun y=>by kernel_rfl)
noncomputable def purserref14_Node.h:Hnd Tryz.prog:={f:=167,h:=_,ok:=purserref14_Node.ok,ent:=ent Tryz.func167 (by kernel_rfl) rfl,v:=some (zf5 _ _ _),vok:=by intro g h;obtain rfl:=Option.some.inj h;exact zat (by kernel_rfl) purserref14_Node.ok,c:=true,cok:=by intro _ g h;obtain rfl:=Option.some.inj h;exact zbw (by kernel_rfl) (by kernel_rfl) purserref14_Node.ok}

theorem purserref14_path.ok:za8 Tryz.prog 169 (hdl [(false,(.slice tI))] [.sl 0 false .bool] (fun y=>purserref14_path.f y)):=
  zb5 [purserref14_Node.h] [⟨3,1,[],[(.norm,[.sl 12 false .bool])],0⟩,⟨0,4,[.sl 3 false tI],[(.ret,[.sl 2 false .bool]),(.exit 0,[])],0⟩,⟨0,7,[.sl 4 false tI],[(.ret,[.sl 2 false .bool]),(.exit 2,[])],0⟩] _ _ _ Tryz.func169 rfl (by kernel_rfl) (by kernel_rfl) (fun y=>by kernel_rfl)
noncomputable def purserref14_path.h:Hnd Tryz.prog:={f:=169,h:=_,ok:=purserref14_path.ok,ent:=ent Tryz.func169 (by kernel_rfl) rfl,v:=some (zf5 _ _ _),vok:=by intro g h;obtain rfl:=Option.some.inj h;exact zat (by kernel_rfl) purserref14_path.ok}

theorem purserref14_limited.ok:za8 Tryz.prog 168 (hdl [(false,(.slice tI)),(false,(.slice tI))] [.sl 0 false .bool] (fun y=>purserref14_limited.f y.1 y.2)):=
  zb5 [purserref14_path.h] [⟨3,1,[],[(.norm,[.sl 15 false .bool])],0⟩,⟨0,4,[.sl 5 false tI],[(.ret,[.sl 4 false .bool]),(.exit 0,[])],0⟩,⟨3,6,[],[(.norm,[.sl 33 false .bool])],0⟩] _ _ _ Tryz.func168 rfl (by kernel_rfl) (by kernel_rfl) (fun y=>by kernel_rfl)
noncomputable def purserref14_limited.h:Hnd Tryz.prog:={f:=168,h:=_,ok:=purserref14_limited.ok,ent:=ent Tryz.func168 (by kernel_rfl) rfl,v:=some (zf5 _ _ _),vok:=by intro g h;obtain rfl:=Option.some.inj h;exact zat (by kernel_rfl) purserref14_limited.ok}

theorem purserref14_Account_Left.ok:za8 Tryz.prog 96 (hdl [(true,tV)] [.sl 0 false tI] (fun y=>purserref14_Account_Left.f y)):=
  zb5 [] [] _ _ _ Tryz.func96 rfl (by kernel_rfl) (by kernel_rfl) (fun y=>by kernel_rfl)
noncomputable def purserref14_Account_Left.h:Hnd Tryz.prog:={f:=96,h:=_,ok:=purserref14_Account_Left.ok,ent:=ent Tryz.func96 (by kernel_rfl) rfl,v:=some (zf5 _ _ _),vok:=by intro g h;obtain rfl:=Option.some.inj h;exact zat (by kernel_rfl) purserref14_Account_Left.ok,c:=true,cok:=by intro _ g h;obtain rfl:=Option.some.inj h;exact zbw (by kernel_rfl) (by kernel_rfl) purserref14_Account_Left.ok}

theorem purserref01_Same.ok:za8 Tryz.prog 97 (hdl [(false,(.slice tI)),(false,(.slice tI))] [.sl 0 false .bool] (fun y=>purserref01_Same.f y.1 y.2)):=
  zb5 [] [⟨0,4,[.sl 5 false tI],[(.ret,[.sl 4 false .bool]),(.exit 0,[])],0⟩] _ _ _ Tryz.func97 rfl (by kernel_rfl) (by kernel_rfl) (fun y=>by kernel_rfl)
noncomputable def purserref01_Same.h:Hnd Tryz.prog:={f:=97,h:=_,ok:=purserref01_Same.ok,ent:=ent Tryz.func97 (by kernel_rfl) rfl,v:=some (zf5 _ _ _),vok:=by intro g h;obtain rfl:=Option.some.inj h;exact zat (by kernel_rfl) purserref01_Same.ok}

noncomputable def purserref08_Journal_Moved_2.h:Hnd Tryz.prog:={f:=55,h:=_,ok:=za9 [purserref08_same.h] [⟨0,3,[.sl 7 false tI,.sl 8 false tI],[(.exit 0,[.sl 7 false tI])],0⟩,⟨0,7,[.sl 7 false tI,.sl 9 false tI],[(.exit 2,[.sl 7 false tI])],0⟩,⟨1,57,[],[(.norm,[.sl 7 false tI])],0⟩] 3 Tryz.func55 rfl,ent:=ent Tryz.func55 (by kernel_rfl) rfl}

noncomputable def purserref08_Journal_DocPost.h:Hnd Tryz.prog:={f:=23,h:=_,ok:=za9 [purserref07_Check.h,purserref08_Journal_Moved_2.h] [⟨0,7,[.sl 7 false tI],[(.ret,[.sl 4 false tI,.sl 5 false tI]),(.exit 0,[])],0⟩,⟨3,10,[],[(.norm,[.sl 46 false .bool])],0⟩] 2 Tryz.func23 rfl,ent:=ent Tryz.func23 (by kernel_rfl) rfl}

theorem purserref15_Purse_post.ok:za8 Tryz.prog 134 (zen 92 (.pair (.flat tW) (.pair kE (.pair (.row tI 3) (.flat tI)))) [(true,tW),(false,tI),(false,tI),(false,tI),(false,(.slice tI)),(false,tI)] [(false,(.flat tI))] (fun s y=>purserref15_Purse_post.f s y.1 y.2.1 y.2.2.1 y.2.2.2.1 y.2.2.2.2.1 y.2.2.2.2.2)):=
  zah [purserref08_Journal_DocPost.h,purserref07_Make.h] [⟨1,17,[.opn 0 92 168,.cl 0 0 tW,.dtc 0 165 kE,.dtc 0 166 (.row tI 3),.cl 0 167 tI],[(.norm,[.sl 2 false tI,.opn 0 92 168,.cl 0 0 tW,.dtc 0 165 kE,.dtc 0 166 (.row tI 3),.cl 0 167 tI])],0⟩,⟨1,27,[.opn 0 92 168,.cl 0 0 tW,.dtc 0 165 kE,.dtc 0 166 (.row tI 3),.cl 0 167 tI],[(.norm,[.sl 2 false tI,.opn 0 92 168,.cl 0 0 tW,.dtc 0 165 kE,.dtc 0 166 (.row tI 3),.cl 0 167 tI])],0⟩,⟨3,5,[.opn 0 92 168,.cl 0 0 tW,.dtc 0 165 kE,.dtc 0 166 (.row tI 3),.cl 0 167 tI],[(.norm,[.sl 2 false tI,.opn 0 92 168,.cl 0 0 tW,.dtc 0 165 kE,.dtc 0 166 (.row tI 3),.cl 0 167 tI])],0⟩,⟨1,37,[.opn 0 92 168,.cl 0 0 tW,.dtc 0 165 kE,.dtc 0 166 (.row tI 3),.cl 0 167 tI],[(.norm,[.opn 0 92 168,.cl 0 0 tW,.dtc 0 165 kE,.dtc 0 166 (.row tI 3),.cl 0 167 tI])],0⟩] _ _ _ _ _ Tryz.func134 rfl (fun s y=>by kernel_rfl)
noncomputable def purserref15_Purse_post.h:Hnd Tryz.prog:={f:=134,h:=_,ok:=purserref15_Purse_post.ok,ent:=ent Tryz.func134 (by kernel_rfl) rfl}

noncomputable def purserref14_Book_DocTop.h:Hnd Tryz.prog:={f:=135,h:=_,ok:=za9 [purserref14_Node.h] [⟨3,1,[],[(.norm,[.sl 17 false .bool])],0⟩] 3 Tryz.func135 rfl,ent:=ent Tryz.func135 (by kernel_rfl) rfl}

theorem purserref15_Purse_Top.ok:za8 Tryz.prog 90 (zen 92 (.pair (.flat tW) (.pair kE (.pair (.row tI 3) (.flat tI)))) [(false,tI),(false,tI)] [(false,(.flat tI))] (fun s y=>purserref15_Purse_Top.f s y.1 y.2)):=
  zah [purserref15_Purse_post.h,purserref14_Book_DocTop.h] [⟨3,2,[.opn 0 92 168,.cl 0 0 tW,.dtc 0 165 kE,.dtc 0 166 (.row tI 3),.cl 0 167 tI],[(.norm,[.sl 6 false tI,.opn 0 92 168,.cl 0 0 tW,.dtc 0 165 kE,.dtc 0 166 (.row tI 3),.cl 0 167 tI])],0⟩] _ _ _ _ _ Tryz.func90 rfl (fun s y=>by kernel_rfl)
noncomputable def purserref15_Purse_Top.h:Hnd Tryz.prog:={f:=90,h:=_,ok:=purserref15_Purse_Top.ok,ent:=ent Tryz.func90 (by kernel_rfl) rfl}

noncomputable def purserref14_Book_DocHold.h:Hnd Tryz.prog:={f:=136,h:=_,ok:=za9 [purserref14_Account_Left.h,purserref14_limited.h] [⟨3,1,[],[(.norm,[.sl 23 false .bool])],0⟩,⟨0,4,[.sl 9 false tI],[(.ret,[.sl 8 false tI]),(.exit 0,[])],0⟩,⟨2,1,[],[(.ret,[.sl 8 false tI]),(.norm,[])],0⟩,⟨3,9,[],[(.norm,[.sl 61 false .bool])],0⟩,⟨0,12,[.sl 11 false tI,.opn 0 92 168,.cl 0 0 tW,.dtc 0 165 kE,.dtc 0 166 (.row tI 3),.cl 0 167 tI],[(.exit 2,[.opn 0 92 168,.cl 0 0 tW,.dtc 0 165 kE,.dtc 0 166 (.row tI 3),.cl 0 167 tI])],0⟩] 4 Tryz.func136 rfl,ent:=ent Tryz.func136 (by kernel_rfl) rfl}

theorem purserref15_Purse_Hold.ok:za8 Tryz.prog 91 (zen 92 (.pair (.flat tW) (.pair kE (.pair (.row tI 3) (.flat tI)))) [(false,(.slice tI)),(false,(.slice tI)),(false,tI)] [(false,(.flat tI))] (fun s y=>purserref15_Purse_Hold.f s y.1 y.2.1 y.2.2)):=
  zah [purserref15_Purse_post.h,purserref14_Book_DocHold.h] [⟨3,2,[.opn 0 92 168,.cl 0 0 tW,.dtc 0 165 kE,.dtc 0 166 (.row tI 3),.cl 0 167 tI],[(.norm,[.sl 8 false tI,.opn 0 92 168,.cl 0 0 tW,.dtc 0 165 kE,.dtc 0 166 (.row tI 3),.cl 0 167 tI])],0⟩] _ _ _ _ _ Tryz.func91 rfl (fun s y=>by kernel_rfl)
noncomputable def purserref15_Purse_Hold.h:Hnd Tryz.prog:={f:=91,h:=_,ok:=purserref15_Purse_Hold.ok,ent:=ent Tryz.func91 (by kernel_rfl) rfl}

noncomputable def purserref14_Book_DocMove.h:Hnd Tryz.prog:={f:=137,h:=_,ok:=za9 [purserref14_path.h] [⟨3,1,[],[(.norm,[.sl 23 false .bool])],0⟩,⟨0,4,[.sl 9 false tI],[(.ret,[.sl 8 false tI]),(.exit 0,[])],0⟩,⟨0,10,[.sl 11 false tI,.opn 0 92 168,.cl 0 0 tW,.dtc 0 165 kE,.dtc 0 166 (.row tI 3),.cl 0 167 tI],[(.exit 2,[.opn 0 92 168,.cl 0 0 tW,.dtc 0 165 kE,.dtc 0 166 (.row tI 3),.cl 0 167 tI])],0⟩] 4 Tryz.func137 rfl,ent:=ent Tryz.func137 (by kernel_rfl) rfl}

theorem purserref15_Purse_Release.ok:za8 Tryz.prog 92 (zen 92 (.pair (.flat tW) (.pair kE (.pair (.row tI 3) (.flat tI)))) [(false,(.slice tI)),(false,tI)] [(false,(.flat tI))] (fun s y=>purserref15_Purse_Release.f s y.1 y.2)):=
  zah [purserref15_Purse_post.h,purserref14_Book_DocMove.h] [⟨3,2,[.opn 0 92 168,.cl 0 0 tW,.dtc 0 165 kE,.dtc 0 166 (.row tI 3),.cl 0 167 tI],[(.norm,[.sl 6 false tI,.opn 0 92 168,.cl 0 0 tW,.dtc 0 165 kE,.dtc 0 166 (.row tI 3),.cl 0 167 tI])],0⟩] _ _ _ _ _ Tryz.func92 rfl (fun s y=>by kernel_rfl)
noncomputable def purserref15_Purse_Release.h:Hnd Tryz.prog:={f:=92,h:=_,ok:=purserref15_Purse_Release.ok,ent:=ent Tryz.func92 (by kernel_rfl) rfl}

noncomputable def purserref14_Book_DocMove_2.h:Hnd Tryz.prog:={f:=137,h:=_,ok:=za9 [purserref14_path.h] [⟨3,1,[],[(.norm,[.sl 23 false .bool])],0⟩,⟨0,4,[.sl 9 false tI],[(.ret,[.sl 8 false tI]),(.exit 0,[])],0⟩,⟨0,10,[.sl 11 false tI,.opn 0 92 168,.cl 0 0 tW,.dtc 0 165 kE,.dtc 0 166 (.row tI 3),.cl 0 167 tI],[(.exit 2,[.opn 0 92 168,.cl 0 0 tW,.dtc 0 165 kE,.dtc 0 166 (.row tI 3),.cl 0 167 tI])],0⟩] 4 Tryz.func137 rfl,ent:=ent Tryz.func137 (by kernel_rfl) rfl}

theorem purserref15_Purse_Commit.ok:za8 Tryz.prog 93 (zen 92 (.pair (.flat tW) (.pair kE (.pair (.row tI 3) (.flat tI)))) [(false,(.slice tI)),(false,tI),(false,tI)] [(false,(.flat tI))] (fun s y=>purserref15_Purse_Commit.f s y.1 y.2.1 y.2.2)):=
  zah [purserref15_Purse_post.h,purserref14_Book_DocMove_2.h] [⟨3,2,[.opn 0 92 168,.cl 0 0 tW,.dtc 0 165 kE,.dtc 0 166 (.row tI 3),.cl 0 167 tI],[(.norm,[.sl 8 false tI,.opn 0 92 168,.cl 0 0 tW,.dtc 0 165 kE,.dtc 0 166 (.row tI 3),.cl 0 167 tI])],0⟩] _ _ _ _ _ Tryz.func93 rfl (fun s y=>by kernel_rfl)
noncomputable def purserref15_Purse_Commit.h:Hnd Tryz.prog:={f:=93,h:=_,ok:=purserref15_Purse_Commit.ok,ent:=ent Tryz.func93 (by kernel_rfl) rfl}

noncomputable def purserref14_Book_DocMove_3.h:Hnd Tryz.prog:={f:=137,h:=_,ok:=za9 [purserref14_path.h] [⟨3,1,[],[(.norm,[.sl 23 false .bool])],0⟩,⟨0,4,[.sl 9 false tI],[(.ret,[.sl 8 false tI]),(.exit 0,[])],0⟩,⟨0,10,[.sl 11 false tI,.opn 0 92 168,.cl 0 0 tW,.dtc 0 165 kE,.dtc 0 166 (.row tI 3),.cl 0 167 tI],[(.exit 2,[.opn 0 92 168,.cl 0 0 tW,.dtc 0 165 kE,.dtc 0 166 (.row tI 3),.cl 0 167 tI])],0⟩] 4 Tryz.func137 rfl,ent:=ent Tryz.func137 (by kernel_rfl) rfl}

theorem purserref15_Purse_Refund.ok:za8 Tryz.prog 94 (zen 92 (.pair (.flat tW) (.pair kE (.pair (.row tI 3) (.flat tI)))) [(false,(.slice tI)),(false,tI),(false,tI)] [(false,(.flat tI))] (fun s y=>purserref15_Purse_Refund.f s y.1 y.2.1 y.2.2)):=
  zah [purserref15_Purse_post.h,purserref14_Book_DocMove_3.h] [⟨3,2,[.opn 0 92 168,.cl 0 0 tW,.dtc 0 165 kE,.dtc 0 166 (.row tI 3),.cl 0 167 tI],[(.norm,[.sl 8 false tI,.opn 0 92 168,.cl 0 0 tW,.dtc 0 165 kE,.dtc 0 166 (.row tI 3),.cl 0 167 tI])],0⟩] _ _ _ _ _ Tryz.func94 rfl (fun s y=>by kernel_rfl)
noncomputable def purserref15_Purse_Refund.h:Hnd Tryz.prog:={f:=94,h:=_,ok:=purserref15_Purse_Refund.ok,ent:=ent Tryz.func94 (by kernel_rfl) rfl}

theorem purserref15_in.ok:za8 Tryz.prog 139 (hdl [(false,(.slice tI)),(false,tI)] [.sl 0 false .bool] (fun y=>purserref15_in.f y.1 y.2)):=
  zb5 [] [⟨0,2,[.sl 5 false tI],[(.ret,[.sl 4 false .bool]),(.exit 0,[])],0⟩] _ _ _ Tryz.func139 rfl (by kernel_rfl) (by kernel_rfl) (fun y=>by kernel_rfl)
noncomputable def purserref15_in.h:Hnd Tryz.prog:={f:=139,h:=_,ok:=purserref15_in.ok,ent:=ent Tryz.func139 (by kernel_rfl) rfl,v:=some (zf5 _ _ _),vok:=by intro g h;obtain rfl:=Option.some.inj h;exact zat (by kernel_rfl) purserref15_in.ok}

noncomputable def purserref08_Journal_DocClose_2.h:Hnd Tryz.prog:={f:=21,h:=_,ok:=za9 [] [] 1 Tryz.func21 rfl,ent:=ent Tryz.func21 (by kernel_rfl) rfl}

noncomputable def purserref08_Journal_Moved_3.h:Hnd Tryz.prog:={f:=55,h:=_,ok:=za9 [purserref08_same.h] [⟨0,3,[.sl 7 false tI,.sl 8 false tI],[(.exit 0,[.sl 7 false tI])],0⟩,⟨0,7,[.sl 7 false tI,.sl 9 false tI],[(.exit 2,[.sl 7 false tI])],0⟩,⟨1,57,[],[(.norm,[.sl 7 false tI])],0⟩] 3 Tryz.func55 rfl,ent:=ent Tryz.func55 (by kernel_rfl) rfl}

noncomputable def purserref08_Journal_DocPost_2.h:Hnd Tryz.prog:={f:=23,h:=_,ok:=za9 [purserref07_Check.h,purserref08_Journal_Moved_3.h] [⟨0,7,[.sl 7 false tI],[(.ret,[.sl 4 false tI,.sl 5 false tI]),(.exit 0,[])],0⟩,⟨3,10,[],[(.norm,[.sl 46 false .bool])],0⟩] 2 Tryz.func23 rfl,ent:=ent Tryz.func23 (by kernel_rfl) rfl}

noncomputable def purserref14_Book_DocRoll.h:Hnd Tryz.prog:={f:=138,h:=_,ok:=za9 [purserref14_Account_Left.h,purserref14_Node.h] [⟨1,20,[],[(.norm,[.sl 9 false tI])],0⟩] 3 Tryz.func138 rfl,ent:=ent Tryz.func138 (by kernel_rfl) rfl}

theorem purserref15_Purse_Roll.ok:za8 Tryz.prog 95 (zen 92 (.pair (.flat tW) (.pair kE (.pair (.row tI 3) (.flat tI)))) [(false,(.slice tI))] [(false,(.flat tI)),(false,(.flat tI))] (fun s y=>purserref15_Purse_Roll.f s y)):=
  zah [purserref08_Journal_DocClose_2.h,purserref08_Journal_DocClose_2.h,purserref08_Journal_DocPost_2.h,purserref07_Make.h,purserref14_Book_DocRoll.h,purserref15_in.h] [⟨1,31,[],[(.norm,[.sl 9 false tI])],0⟩,⟨0,8,[.sl 8 false tI,.sl 9 false tI,.sl 10 false tI,.opn 0 92 168,.cl 0 0 tW,.dtc 0 165 kE,.dtc 0 166 (.row tI 3),.cl 0 167 tI],[(.exit 0,[.sl 8 false tI,.sl 9 false tI,.opn 0 92 168,.cl 0 0 tW,.dtc 0 165 kE,.dtc 0 166 (.row tI 3),.cl 0 167 tI])],0⟩,⟨3,8,[],[(.norm,[.sl 37 false .bool])],0⟩,⟨3,10,[.opn 0 92 168,.cl 0 0 tW,.dtc 0 165 kE,.dtc 0 166 (.row tI 3),.cl 0 167 tI],[(.norm,[.sl 11 false tI,.opn 0 92 168,.cl 0 0 tW,.dtc 0 165 kE,.dtc 0 166 (.row tI 3),.cl 0 167 tI])],0⟩,⟨1,55,[.opn 0 92 168,.cl 0 0 tW,.dtc 0 165 kE,.dtc 0 166 (.row tI 3),.cl 0 167 tI],[(.norm,[.sl 9 false tI,.opn 0 92 168,.cl 0 0 tW,.dtc 0 165 kE,.dtc 0 166 (.row tI 3),.cl 0 167 tI])],0⟩,⟨1,64,[.opn 0 92 168,.cl 0 0 tW,.dtc 0 165 kE,.dtc 0 166 (.row tI 3),.cl 0 167 tI],[(.norm,[.sl 14 false tI,.opn 0 92 168,.cl 0 0 tW,.dtc 0 165 kE,.dtc 0 166 (.row tI 3),.cl 0 167 tI])],0⟩,⟨3,15,[.opn 0 92 168,.cl 0 0 tW,.dtc 0 165 kE,.dtc 0 166 (.row tI 3),.cl 0 167 tI],[(.norm,[.sl 14 false tI,.opn 0 92 168,.cl 0 0 tW,.dtc 0 165 kE,.dtc 0 166 (.row tI 3),.cl 0 167 tI])],0⟩,⟨1,75,[.opn 0 92 168,.cl 0 0 tW,.dtc 0 165 kE,.dtc 0 166 (.row tI 3),.cl 0 167 tI],[(.norm,[.sl 9 false tI,.opn 0 92 168,.cl 0 0 tW,.dtc 0 165 kE,.dtc 0 166 (.row tI 3),.cl 0 167 tI])],0⟩,⟨3,18,[.opn 0 92 168,.cl 0 0 tW,.dtc 0 165 kE,.dtc 0 166 (.row tI 3),.cl 0 167 tI],[(.norm,[.sl 9 false tI,.opn 0 92 168,.cl 0 0 tW,.dtc 0 165 kE,.dtc 0 166 (.row tI 3),.cl 0 167 tI])],0⟩] _ _ _ _ _ Tryz.func95 rfl (fun s y=>by kernel_rfl)
noncomputable def purserref15_Purse_Roll.h:Hnd Tryz.prog:={f:=95,h:=_,ok:=purserref15_Purse_Roll.ok,ent:=ent Tryz.func95 (by kernel_rfl) rfl}

theorem purserlaw15_few.ok:za8 Tryz.prog 89 (hdl [(false,(.slice tI)),(false,tI)] [.dts 0 (.row tI 3)] (fun y=>purserlaw15_few.f y.1 y.2)):=
  zb5 [] [] _ _ _ Tryz.func89 rfl (by kernel_rfl) (by kernel_rfl) (fun y=>by kernel_rfl)
noncomputable def purserlaw15_few.h:Hnd Tryz.prog:={f:=89,h:=_,ok:=purserlaw15_few.ok,ent:=ent Tryz.func89 (by kernel_rfl) rfl}

theorem purserlaw15_Act_do.ok:za8 Tryz.prog 42 (hdlQ [.val true (.pair tI (.pair tI (.pair (.slice tI) (.pair (.slice tI) (.pair tI (.pair tI (.slice tI))))))),.ptr 145 (.pair kQ kP),.ptr 92 (.pair (.flat tW) (.pair kE (.pair (.row tI 3) (.flat tI))))] [(false,(.flat .bool))] (fun s y=>purserlaw15_Act_do.f y s.1 s.2.1)):=
  zBa [period_Purse_TopUp.h,period_Purse_Roll.h,period_Purse_Hold.h,period_Purse_Release.h,period_Purse_Commit.h,period_Purse_Refund.h,purserlaw15_few.h,purserref15_Purse_Top.h,purserref15_Purse_Hold.h,purserref15_Purse_Release.h,purserref15_Purse_Commit.h,purserref15_Purse_Refund.h,purserref15_Purse_Roll.h] [⟨3,16,[],[(.norm,[.sl 6 false .bool])],0⟩] _ _ _ Tryz.func42 rfl (fun s y=>by kernel_rfl)
noncomputable def purserlaw15_Act_do.h:Hnd Tryz.prog:={f:=42,h:=_,ok:=purserlaw15_Act_do.ok,ent:=ent Tryz.func42 (by kernel_rfl) rfl}

noncomputable def period_Purse_Available_2.h:Hnd Tryz.prog:={f:=33,h:=_,ok:=za9 [funds_Book_Available.h] [] 2 Tryz.func33 rfl,ent:=ent Tryz.func33 (by kernel_rfl) rfl}

noncomputable def period_Purse_Journal_2.h:Hnd Tryz.prog:={f:=34,h:=_,ok:=za9 [] [] 1 Tryz.func34 rfl,ent:=ent Tryz.func34 (by kernel_rfl) rfl}

noncomputable def period_Purse_Nodes_2.h:Hnd Tryz.prog:={f:=41,h:=_,ok:=za9 [funds_Book_Nodes.h] [] 1 Tryz.func41 rfl,ent:=ent Tryz.func41 (by kernel_rfl) rfl}

noncomputable def period_Purse_Get_2.h:Hnd Tryz.prog:={f:=44,h:=_,ok:=za9 [funds_Book_Get.h] [] 2 Tryz.func44 rfl,ent:=ent Tryz.func44 (by kernel_rfl) rfl}

theorem purserlaw15_like.ok:za8 Tryz.prog 43 (hdlQ [.ptr 145 (.pair kQ kP),.ptr 92 (.pair (.flat tW) (.pair kE (.pair (.row tI 3) (.flat tI))))] [(false,(.flat .bool))] (fun s y=>purserlaw15_like.f s.1 s.2.1)):=
  zBa [journal_Journal_At.h,journal_Journal_Period.h,journal_Journal_Len.h,period_Purse_Available_2.h,period_Purse_Journal_2.h,period_Purse_Nodes_2.h,period_Purse_Get_2.h,purserref14_Account_Left.h,purserref01_Same.h] [⟨0,3,[.dts 5 (.row tI 3),.sl 6 false tI,.opn 1 175 1,.dtc 1 0 kB],[(.ret,[.sl 4 false .bool,.opn 1 175 1,.dtc 1 0 kB]),(.exit 0,[.dts 5 (.row tI 3),.opn 1 175 1,.dtc 1 0 kB])],0⟩,⟨3,6,[.opn 1 175 1,.dtc 1 0 kB],[(.norm,[.sl 49 false .bool,.opn 1 175 1,.dtc 1 0 kB])],0⟩,⟨1,52,[.dts 5 (.row tI 3)],[(.norm,[.dts 5 (.row tI 3)])],0⟩,⟨3,11,[.opn 3 109 4,.dtc 3 0 kR,.cl 3 1 tI,.dtc 3 2 kK,.dtc 3 3 kM],[(.norm,[.sl 84 false .bool,.opn 3 109 4,.dtc 3 0 kR,.cl 3 1 tI,.dtc 3 2 kK,.dtc 3 3 kM])],0⟩,⟨0,14,[.sl 9 false tI,.opn 3 109 4,.dtc 3 0 kR,.cl 3 1 tI,.dtc 3 2 kK,.dtc 3 3 kM],[(.ret,[.sl 4 false .bool,.opn 3 109 4,.dtc 3 0 kR,.cl 3 1 tI,.dtc 3 2 kK,.dtc 3 3 kM]),(.exit 2,[.opn 3 109 4,.dtc 3 0 kR,.cl 3 1 tI,.dtc 3 2 kK,.dtc 3 3 kM])],0⟩,⟨3,18,[],[(.norm,[.sl 135 false .bool])],0⟩,⟨0,21,[.sl 14 false tI],[(.ret,[.sl 4 false .bool]),(.exit 4,[])],0⟩] _ _ _ Tryz.func43 rfl (fun s y=>by kernel_rfl)
noncomputable def purserlaw15_like.h:Hnd Tryz.prog:={f:=43,h:=_,ok:=purserlaw15_like.ok,ent:=ent Tryz.func43 (by kernel_rfl) rfl}

theorem period_Purse_used.ok:za8 Tryz.prog 144 (zen 145 (.pair kQ kP) [(false,tI)] [(false,(.flat tI))] (fun s y=>period_Purse_used.f s y)):=
  zah [journal_Journal_Period.h,journal_Journal_Moved.h] [⟨0,3,[.sl 5 false tI,.sl 7 false tI,.opn 3 109 4,.dtc 3 0 kR,.cl 3 1 tI,.dtc 3 2 kK,.dtc 3 3 kM],[(.exit 0,[.sl 5 false tI,.opn 3 109 4,.dtc 3 0 kR,.cl 3 1 tI,.dtc 3 2 kK,.dtc 3 3 kM])],0⟩] _ _ _ _ _ Tryz.func144 rfl (fun s y=>by kernel_rfl)
noncomputable def period_Purse_used.h:Hnd Tryz.prog:={f:=144,h:=_,ok:=period_Purse_used.ok,ent:=ent Tryz.func144 (by kernel_rfl) rfl}

theorem period_Purse_right.ok:za8 Tryz.prog 103 (zen 145 (.pair kQ kP) [(false,tI)] [(false,(.flat .bool))] (fun s y=>period_Purse_right.f s y)):=
  zah [journal_Journal_Balance.h,funds_Book_Available.h,funds_Book_Get.h,period_Purse_used.h] [⟨3,4,[.opn 0 145 2,.dtc 0 0 kQ,.dtc 0 1 kP],[(.norm,[.sl 4 false .bool,.opn 0 145 2,.dtc 0 0 kQ,.dtc 0 1 kP])],0⟩] _ _ _ _ _ Tryz.func103 rfl (fun s y=>by kernel_rfl)
noncomputable def period_Purse_right.h:Hnd Tryz.prog:={f:=103,h:=_,ok:=period_Purse_right.ok,ent:=ent Tryz.func103 (by kernel_rfl) rfl}

theorem period_Purse_entries.ok:za8 Tryz.prog 102 (zen 145 (.pair kQ kP) [(false,(.slice tE)),(false,(.slice tI)),(false,tI)] [(false,(.flat tI))] (fun s y=>period_Purse_entries.f s y.1 y.2.1 y.2.2)):=
  zah [journal_Journal_Post.h,journal_Journal_Close.h,journal_Journal_Period.h] [⟨3,1,[],[(.norm,[.sl 25 false .bool])],0⟩,⟨0,4,[.sl 28 false tI,.opn 3 109 4,.dtc 3 0 kR,.cl 3 1 tI,.dtc 3 2 kK,.dtc 3 3 kM],[(.ret,[.sl 8 false tI,.opn 3 109 4,.dtc 3 0 kR,.cl 3 1 tI,.dtc 3 2 kK,.dtc 3 3 kM]),(.exit 0,[.opn 3 109 4,.dtc 3 0 kR,.cl 3 1 tI,.dtc 3 2 kK,.dtc 3 3 kM])],0⟩,⟨3,6,[.opn 3 109 4,.dtc 3 0 kR,.cl 3 1 tI,.dtc 3 2 kK,.dtc 3 3 kM],[(.norm,[.sl 50 false .bool,.opn 3 109 4,.dtc 3 0 kR,.cl 3 1 tI,.dtc 3 2 kK,.dtc 3 3 kM])],0⟩,⟨0,8,[.opn 3 109 4,.dtc 3 0 kR,.cl 3 1 tI,.dtc 3 2 kK,.dtc 3 3 kM],[(.exit 2,[.opn 3 109 4,.dtc 3 0 kR,.cl 3 1 tI,.dtc 3 2 kK,.dtc 3 3 kM])],0⟩,⟨0,14,[.opn 3 109 4,.dtc 3 0 kR,.cl 3 1 tI,.dtc 3 2 kK,.dtc 3 3 kM],[(.exit 4,[.opn 3 109 4,.dtc 3 0 kR,.cl 3 1 tI,.dtc 3 2 kK,.dtc 3 3 kM])],0⟩] _ _ _ _ _ Tryz.func102 rfl (fun s y=>by kernel_rfl)
noncomputable def period_Purse_entries.h:Hnd Tryz.prog:={f:=102,h:=_,ok:=period_Purse_entries.ok,ent:=ent Tryz.func102 (by kernel_rfl) rfl}

noncomputable def period_Restore.h:Hnd Tryz.prog:={f:=45,h:=_,ok:=za9 [period_New.h,slices_Sorted_int.h,maps_Keys_funds_Account.h,funds_Book_Set.h,period_Purse_entries.h,period_Purse_right.h] [⟨0,3,[.sl 21 false tI,.opn 1001 175 1,.dtc 1001 0 kB],[(.ret,[.sl 9 false tI,.opn 1001 175 1,.dtc 1001 0 kB]),(.exit 0,[.opn 1001 175 1,.dtc 1001 0 kB])],0⟩,⟨0,13,[.sl 46 false tI,.opn 1000 145 2,.dtc 1000 0 kQ,.dtc 1000 1 kP],[(.ret,[.sl 9 false tI,.opn 1000 145 2,.dtc 1000 0 kQ,.dtc 1000 1 kP]),(.exit 2,[.opn 1000 145 2,.dtc 1000 0 kQ,.dtc 1000 1 kP])],0⟩] 4 Tryz.func45 rfl,ent:=ent Tryz.func45 (by kernel_rfl) rfl}

theorem purserlaw15_PeriodRestores.ok:za8 Tryz.prog 8 (hdl [(false,(.slice (.pair tI (.pair tI (.pair (.slice tI) (.pair (.slice tI) (.pair tI (.pair tI (.slice tI))))))))),(false,tI)] [.sl 0 false .bool] (fun y=>purserlaw15_PeriodRestores.f y.1 y.2)):=
  zb5 [journal_Journal_At.h,journal_Journal_Period.h,purserref07_Make.h,period_New.h,purserlaw15_purses.h,period_Purse_Journal_2.h,purserlaw15_Act_do.h,purserlaw15_like.h,period_Purse_Get_2.h,period_Restore.h] [⟨0,3,[.sl 7 false tI,.opn 0 145 2,.dtc 0 0 kQ,.dtc 0 1 kP,.opn 7 92 168,.cl 7 0 tW,.dtc 7 165 kE,.dtc 7 166 (.row tI 3),.cl 7 167 tI],[(.ret,[.sl 4 false .bool,.opn 0 145 2,.dtc 0 0 kQ,.dtc 0 1 kP,.opn 7 92 168,.cl 7 0 tW,.dtc 7 165 kE,.dtc 7 166 (.row tI 3),.cl 7 167 tI]),(.exit 0,[.opn 0 145 2,.dtc 0 0 kQ,.dtc 0 1 kP,.opn 7 92 168,.cl 7 0 tW,.dtc 7 165 kE,.dtc 7 166 (.row tI 3),.cl 7 167 tI])],0⟩,⟨3,3,[],[(.norm,[.sl 40 false .bool])],0⟩,⟨0,9,[.sl 9 false tI,.opn 8 175 1,.dtc 8 0 kB,.mp 16 ⟨3,97,false,tI,true,tV⟩],[(.exit 2,[.opn 8 175 1,.dtc 8 0 kB,.mp 16 ⟨3,97,false,tI,true,tV⟩])],0⟩,⟨1,61,[.mp 16 ⟨3,97,false,tI,true,tV⟩],[(.norm,[.mp 16 ⟨3,97,false,tI,true,tV⟩])],0⟩,⟨0,17,[.dts 11 (.row tE 30),.dts 12 (.row tI 3),.sl 13 false tI,.opn 10 109 4,.dtc 10 0 kR,.cl 10 1 tI,.dtc 10 2 kK,.dtc 10 3 kM],[(.ret,[.sl 4 false .bool,.opn 10 109 4,.dtc 10 0 kR,.cl 10 1 tI,.dtc 10 2 kK,.dtc 10 3 kM]),(.exit 4,[.dts 11 (.row tE 30),.dts 12 (.row tI 3),.opn 10 109 4,.dtc 10 0 kR,.cl 10 1 tI,.dtc 10 2 kK,.dtc 10 3 kM])],0⟩,⟨3,31,[],[(.norm,[.sl 23 false tI])],0⟩,⟨3,32,[.dts 12 (.row tI 3)],[(.norm,[.sl 25 false tI])],0⟩,⟨3,33,[],[(.norm,[.sl 27 false tI])],0⟩,⟨3,35,[],[(.norm,[.sl 4 false .bool])],0⟩] _ _ _ Tryz.func8 rfl (by kernel_rfl) (by kernel_rfl) (fun y=>by kernel_rfl)
noncomputable def purserlaw15_PeriodRestores.h:Hnd Tryz.prog:={f:=8,h:=_,ok:=purserlaw15_PeriodRestores.ok,ent:=ent Tryz.func8 (by kernel_rfl) rfl,v:=some (zf5 _ _ _),vok:=by intro g h;obtain rfl:=Option.some.inj h;exact zat (by kernel_rfl) purserlaw15_PeriodRestores.ok}
end Go.Proofs.YtniohchnpfpffaaGreat.Y
