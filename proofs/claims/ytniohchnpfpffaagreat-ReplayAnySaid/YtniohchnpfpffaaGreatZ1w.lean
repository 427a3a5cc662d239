/- The program's functions compute what the plain functions tell,whatever the input; no statement of its own. -/
import Derived.Test.YtniohchnpfpffaaGreatProg
import Derived.Test.YtniohchnpfpffaaGreatAmE
import Derived.Test.YtniohchnpfpffaaGreatZ1d
import Derived.Test.YtniohchnpfpffaaGreatSA
import Derived.Test.YtniohchnpfpffaaGreatLSort
import Derived.Test.YtniohchnpfpffaaGreatPh
import Derived.Test.YtniohchnpfpffaaGreatKhi
import Derived.Test.YtniohchnpfpffaaGreatKhd
import Derived.Test.YtniohchnpfpffaaGreatSx
import Derived.KernelRfl
set_option linter.unusedVariables false
namespace Go.Proofs.YtniohchnpfpffaaGreat.Y
open Go.Am Go.Vk
set_option maxRecDepth 100000
abbrev kB:DT:= .map ⟨3,97,false,tI,true,tV⟩
abbrev kK:DT:= .map ⟨40,3,true,tA,false,tI⟩
abbrev kR:DT:= .row (.pair (.pair tI (.slice (.pair tA tI))) tI) 112
abbrev kM:DT:= .rowD kK 106
abbrev kJ:DT:= .pair kR (.pair (.flat tI) (.pair kK kM))
abbrev kP:DT:= .ptr 109 kJ
abbrev kQ:DT:= .ptr 175 kB
abbrev tW:Ty:= .arr tV 33
abbrev kE:DT:= .row (.pair tI (.slice (.pair tI tA))) 52
abbrev tE:Ty:= .pair tI (.slice (.pair tA tI))
abbrev tF:Ty:= .pair tI (.slice (.pair tI tA))
theorem ent {f : FuncId} {fn : Func} {c : Code} (hf : Tryz.prog.funcs[f]? = some fn) (hn : (fn.name == "runtime.NumGoroutine") = false) (hb : fn.body = some c) : ∀ args w,(callFunc f args).run Tryz.prog w = .ok (.enter f args) w := Go.MuLone.run_callFunc_enter hf hn hb
section
variable [Dr]
theorem cmp_isNaN_int.ok:zab Tryz.prog 110 (hdl [(false,tI)] [.sl 0 false .bool] (fun y=>cmp_isNaN_int.f y)):=
  zan [] [] _ _ _ Tryz.func110 rfl (by kernel_rfl) (by kernel_rfl) (fun y=>by kernel_rfl)
noncomputable def cmp_isNaN_int.h:Hnd Tryz.prog:={f:=110,h:=_,ok:=cmp_isNaN_int.ok,ent:=ent Tryz.func110 (by kernel_rfl) rfl,v:=some (zdo _ _ _),vok:=by intro g h;obtain rfl:=Option.some.inj h;exact zag (by kernel_rfl) cmp_isNaN_int.ok,c:=true,cok:=by intro _ g h;obtain rfl:=Option.some.inj h;exact zb1 (by kernel_rfl) (by kernel_rfl) cmp_isNaN_int.ok}

theorem cmp_Compare_int.ok:zab Tryz.prog 53 (hdl [(false,tI),(false,tI)] [.sl 0 false tI] (fun y=>cmp_Compare_int.f y.1 y.2)):=
  zan [cmp_isNaN_int.h] [] _ _ _ Tryz.func53 rfl (by kernel_rfl) (by kernel_rfl) (fun y=>by kernel_rfl)
noncomputable def cmp_Compare_int.h:Hnd Tryz.prog:={f:=53,h:=_,ok:=cmp_Compare_int.ok,ent:=ent Tryz.func53 (by kernel_rfl) rfl,v:=some (zdo _ _ _),vok:=by intro g h;obtain rfl:=Option.some.inj h;exact zag (by kernel_rfl) cmp_Compare_int.ok,c:=true,cok:=by intro _ g h;obtain rfl:=Option.some.inj h;exact zb1 (by kernel_rfl) (by kernel_rfl) cmp_Compare_int.ok}

theorem cmp_Or_int.ok:zab Tryz.prog 52 (hdl [(false,(.slice tI))] [.sl 0 false tI] (fun y=>cmp_Or_int.f y)):=
  zan [] [⟨0,3,[.sl 8 false tI],[(.ret,[.sl 2 false tI]),(.exit 0,[])],0⟩] _ _ _ Tryz.func52 rfl (by kernel_rfl) (by kernel_rfl) (fun y=>by kernel_rfl)
noncomputable def cmp_Or_int.h:Hnd Tryz.prog:={f:=52,h:=_,ok:=cmp_Or_int.ok,ent:=ent Tryz.func52 (by kernel_rfl) rfl,v:=some (zdo _ _ _),vok:=by intro g h;obtain rfl:=Option.some.inj h;exact zag (by kernel_rfl) cmp_Or_int.ok}

noncomputable def entry_Account_order.h:Hnd Tryz.prog:={f:=66,h:=_,ok:=zbr [cmp_Or_int.h,cmp_Compare_int.h] [] 2 Tryz.func66 rfl,ent:=ent Tryz.func66 (by kernel_rfl) rfl}

theorem entry_Make_1.ok:zab Tryz.prog 65 (hdl [(true,(.pair tA tI)),(true,(.pair tA tI))] [.sl 0 false tI] (fun y=>entry_Make_1.f y.1 y.2)):=
  zan [entry_Account_order.h] [] _ _ _ Tryz.func65 rfl (by kernel_rfl) (by kernel_rfl) (fun y=>by kernel_rfl)
noncomputable def entry_Make_1.h:Hnd Tryz.prog:={f:=65,h:=_,ok:=entry_Make_1.ok,ent:=ent Tryz.func65 (by kernel_rfl) rfl,v:=some (zdo _ _ _),vok:=by intro g h;obtain rfl:=Option.some.inj h;exact zag (by kernel_rfl) entry_Make_1.ok,c:=true,cok:=by intro _ g h;obtain rfl:=Option.some.inj h;exact zb1 (by kernel_rfl) (by kernel_rfl) entry_Make_1.ok}
end
instance :Dr:=⟨False⟩
noncomputable def sort64.h:Hnd Tryz.prog:={f:=64,h:=zqo 65 (.pair tA tI) entry_Make_1.f,ok:=sort_ok (T:=(.pair tA tI)) (f:=entry_Make_1.f) sortL (by kernel_rfl) (@zag ⟨True⟩ _ _ _ _ _ (by kernel_rfl) (@entry_Make_1.ok ⟨True⟩)) (ent Tryz.func65 (by kernel_rfl) rfl) (by kernel_rfl) (by kernel_rfl),ent:=ent Tryz.func64 (by kernel_rfl) rfl}

theorem entry_kind.ok:zab Tryz.prog 60 (hdl [(false,tI)] [.sl 0 false .bool] (fun y=>entry_kind.f y)):=
  zan [] [⟨3,1,[],[(.norm,[.sl 2 false .bool])],0⟩] _ _ _ Tryz.func60 rfl (by kernel_rfl) (by kernel_rfl) (fun y=>by kernel_rfl)
noncomputable def entry_kind.h:Hnd Tryz.prog:={f:=60,h:=_,ok:=entry_kind.ok,ent:=ent Tryz.func60 (by kernel_rfl) rfl,v:=some (zdo _ _ _),vok:=by intro g h;obtain rfl:=Option.some.inj h;exact zag (by kernel_rfl) entry_kind.ok,c:=true,cok:=by intro _ g h;obtain rfl:=Option.some.inj h;exact zb1 (by kernel_rfl) (by kernel_rfl) entry_kind.ok}

theorem entry_sides.ok:zab Tryz.prog 62 (hdl [(false,tI)] [.sl 0 false tI,.sl 1 false tI] (fun y=>entry_sides.f y)):=
  zan [] [] _ _ _ Tryz.func62 rfl (by kernel_rfl) (by kernel_rfl) (fun y=>by kernel_rfl)
noncomputable def entry_sides.h:Hnd Tryz.prog:={f:=62,h:=_,ok:=entry_sides.ok,ent:=ent Tryz.func62 (by kernel_rfl) rfl,v:=some (zdo _ _ _),vok:=by intro g h;obtain rfl:=Option.some.inj h;exact zag (by kernel_rfl) entry_sides.ok,c:=true,cok:=by intro _ g h;obtain rfl:=Option.some.inj h;exact zb1 (by kernel_rfl) (by kernel_rfl) entry_sides.ok}

theorem entry_on.ok:zab Tryz.prog 63 (hdl [(false,tI),(false,tI),(false,tI)] [.sl 0 true tA] (fun y=>entry_on.f y.1 y.2.1 y.2.2)):=
  zan [] [] _ _ _ Tryz.func63 rfl (by kernel_rfl) (by kernel_rfl) (fun y=>by kernel_rfl)
noncomputable def entry_on.h:Hnd Tryz.prog:={f:=63,h:=_,ok:=entry_on.ok,ent:=ent Tryz.func63 (by kernel_rfl) rfl,v:=some (zdo _ _ _),vok:=by intro g h;obtain rfl:=Option.some.inj h;exact zag (by kernel_rfl) entry_on.ok,c:=true,cok:=by intro _ g h;obtain rfl:=Option.some.inj h;exact zb1 (by kernel_rfl) (by kernel_rfl) entry_on.ok}

theorem entry_Account_right.ok:zab Tryz.prog 145 (hdl [(true,tA)] [.sl 0 false .bool] (fun y=>entry_Account_right.f y)):=
  zan [] [⟨3,1,[],[(.norm,[.sl 3 false .bool])],0⟩,⟨3,4,[],[(.norm,[.sl 2 false .bool])],0⟩,⟨3,8,[],[(.norm,[.sl 2 false .bool])],0⟩,⟨3,10,[],[(.norm,[.sl 2 false .bool])],0⟩] _ _ _ Tryz.func145 rfl (by kernel_rfl) (by kernel_rfl) (fun y=>by kernel_rfl)
noncomputable def entry_Account_right.h:Hnd Tryz.prog:={f:=145,h:=_,ok:=entry_Account_right.ok,ent:=ent Tryz.func145 (by kernel_rfl) rfl,v:=some (zdo _ _ _),vok:=by intro g h;obtain rfl:=Option.some.inj h;exact zag (by kernel_rfl) entry_Account_right.ok,c:=true,cok:=by intro _ g h;obtain rfl:=Option.some.inj h;exact zb1 (by kernel_rfl) (by kernel_rfl) entry_Account_right.ok}

theorem entry_Entry_leg.ok:zab Tryz.prog 104 (hdl [(true,tE),(false,tI)] [.sl 0 false tI] (fun y=>entry_Entry_leg.f y.1 y.2)):=
  zan [entry_Account_order.h,entry_Account_right.h] [⟨3,4,[],[(.norm,[.sl 16 false .bool])],0⟩,⟨3,6,[],[(.norm,[.sl 30 false .bool])],0⟩] _ _ _ Tryz.func104 rfl (by kernel_rfl) (by kernel_rfl) (fun y=>by kernel_rfl)
noncomputable def entry_Entry_leg.h:Hnd Tryz.prog:={f:=104,h:=_,ok:=entry_Entry_leg.ok,ent:=ent Tryz.func104 (by kernel_rfl) rfl,v:=some (zdo _ _ _),vok:=by intro g h;obtain rfl:=Option.some.inj h;exact zag (by kernel_rfl) entry_Entry_leg.ok}

theorem entry_Check.ok:zab Tryz.prog 46 (hdl [(true,tE)] [.sl 0 false tI] (fun y=>entry_Check.f y)):=
  zan [entry_kind.h,entry_Entry_leg.h] [⟨3,3,[],[(.norm,[.sl 12 false .bool])],0⟩,⟨0,7,[.sl 3 false tI,.sl 26 false tI],[(.ret,[.sl 2 false tI]),(.exit 1,[.sl 3 false tI])],0⟩] _ _ _ Tryz.func46 rfl (by kernel_rfl) (by kernel_rfl) (fun y=>by kernel_rfl)
noncomputable def entry_Check.h:Hnd Tryz.prog:={f:=46,h:=_,ok:=entry_Check.ok,ent:=ent Tryz.func46 (by kernel_rfl) rfl,v:=some (zdo _ _ _),vok:=by intro g h;obtain rfl:=Option.some.inj h;exact zag (by kernel_rfl) entry_Check.ok}

theorem path.ok:zab Tryz.prog 61 (hdl [(false,(.slice tI))] [.sl 0 false .bool] (fun y=>path.f y)):=Sv.path_ok (fun h=>h)
noncomputable def path.h:Hnd Tryz.prog:={f:=61,h:=_,ok:=path.ok,ent:=ent Tryz.func61 (by kernel_rfl) rfl,v:=some (zdo _ _ _),vok:=by intro g h;obtain rfl:=Option.some.inj h;exact zag (by kernel_rfl) path.ok}

theorem entry_Make.ok:zab Tryz.prog 26 (hdl [(false,tI),(false,tI),(false,(.slice tI)),(false,tI)] [.sl 0 true tE,.sl 1 false tI] (fun y=>entry_Make.f y.1 y.2.1 y.2.2.1 y.2.2.2)):=
  zan [entry_Check.h,entry_kind.h,path.h,entry_sides.h,entry_on.h,sort64.h] [⟨3,3,[],[(.norm,[.sl 21 false .bool])],0⟩,⟨1,42,[.opn 1 30 2,.cl 1 0 tI,.dtc 1 1 (.row (.pair tA tI) 59)],[(.norm,[.opn 1 30 2,.cl 1 0 tI,.dtc 1 1 (.row (.pair tA tI) 59)])],0⟩,⟨0,10,[.sl 56 false tI,.opn 1 30 2,.cl 1 0 tI,.dtc 1 1 (.row (.pair tA tI) 59)],[(.exit 1,[.opn 1 30 2,.cl 1 0 tI,.dtc 1 1 (.row (.pair tA tI) 59)])],0⟩,⟨1,61,[.opn 1 30 2,.cl 1 0 tI,.dtc 1 1 (.row (.pair tA tI) 59)],[(.norm,[.opn 1 30 2,.cl 1 0 tI,.dtc 1 1 (.row (.pair tA tI) 59)])],0⟩] _ _ _ Tryz.func26 rfl (by kernel_rfl) (by kernel_rfl) (fun y=>by kernel_rfl)
noncomputable def entry_Make.h:Hnd Tryz.prog:={f:=26,h:=_,ok:=entry_Make.ok,ent:=ent Tryz.func26 (by kernel_rfl) rfl,v:=some (zdo _ _ _),vok:=by intro g h;obtain rfl:=Option.some.inj h;exact zag (by kernel_rfl) entry_Make.ok}

theorem slices_Clone_entry_Leg.ok:zab Tryz.prog 105 (hdl [(false,(.slice (.pair tA tI)))] [.dts 0 (.row (.pair tA tI) 59)] (fun y=>slices_Clone_entry_Leg.f y)):=
  zan [] [] _ _ _ Tryz.func105 rfl (by kernel_rfl) (by kernel_rfl) (fun y=>by kernel_rfl)
noncomputable def slices_Clone_entry_Leg.h:Hnd Tryz.prog:={f:=105,h:=_,ok:=slices_Clone_entry_Leg.ok,ent:=ent Tryz.func105 (by kernel_rfl) rfl}

theorem journal_copied.ok:zab Tryz.prog 47 (hdl [(true,tE)] [.sl 0 true tE] (fun y=>journal_copied.f y)):=
  zan [slices_Clone_entry_Leg.h] [] _ _ _ Tryz.func47 rfl (by kernel_rfl) (by kernel_rfl) (fun y=>by kernel_rfl)
noncomputable def journal_copied.h:Hnd Tryz.prog:={f:=47,h:=_,ok:=journal_copied.ok,ent:=ent Tryz.func47 (by kernel_rfl) rfl,v:=some (zdo _ _ _),vok:=by intro g h;obtain rfl:=Option.some.inj h;exact zag (by kernel_rfl) journal_copied.ok}

theorem arith_Sum.ok:zab Tryz.prog 48 (hdl [(false,(.slice tI))] [.sl 0 false tI,.sl 1 false .bool] (fun y=>arith_Sum.f y)):=
  zan [] [⟨0,3,[.sl 4 false (.int .u64),.sl 5 false (.int .u64),.sl 11 false tI],[(.exit 0,[.sl 4 false (.int .u64),.sl 5 false (.int .u64)])],0⟩] _ _ _ Tryz.func48 rfl (by kernel_rfl) (by kernel_rfl) (fun y=>by kernel_rfl)
noncomputable def arith_Sum.h:Hnd Tryz.prog:={f:=48,h:=_,ok:=arith_Sum.ok,ent:=ent Tryz.func48 (by kernel_rfl) rfl,v:=some (zdo _ _ _),vok:=by intro g h;obtain rfl:=Option.some.inj h;exact zag (by kernel_rfl) arith_Sum.ok}

theorem journal_New.ok:zab Tryz.prog 20 (hdl [] [.dts 0 kP] (fun y=>journal_New.f)):=
  zan [] [] _ _ _ Tryz.func20 rfl (by kernel_rfl) (by kernel_rfl) (fun y=>by kernel_rfl)
noncomputable def journal_New.h:Hnd Tryz.prog:={f:=20,h:=_,ok:=journal_New.ok,ent:=ent Tryz.func20 (by kernel_rfl) rfl}

theorem journal_Journal_Post.ok:zab Tryz.prog 10 (zkh 109 kJ [(true,tE)] [(false,(.flat tI)),(false,(.flat tI))] (fun s y=>journal_Journal_Post.f s y)):=
  zba [entry_Check.h,journal_copied.h] [⟨0,9,[.sl 28 false tI],[(.ret,[.sl 4 false tI,.sl 5 false tI]),(.exit 0,[])],0⟩,⟨3,12,[],[(.norm,[.sl 47 false .bool])],0⟩,⟨0,16,[.sl 52 false tI,.mp 2 ⟨40,3,true,tA,false,tI⟩,.rwD 3 kK 106],[(.exit 2,[.mp 2 ⟨40,3,true,tA,false,tI⟩,.rwD 3 kK 106])],0⟩] _ _ _ _ _ Tryz.func10 rfl (fun s y=>by kernel_rfl)
noncomputable def journal_Journal_Post.h:Hnd Tryz.prog:={f:=10,h:=_,ok:=zgy (p:=zyl) (zg6 [entry_Check.h,journal_copied.h] [] 2 Tryz.func10 rfl) journal_Journal_Post.ok,ent:=ent Tryz.func10 (by kernel_rfl) rfl}

theorem journal_Journal_Close.ok:zab Tryz.prog 11 (zkh 109 kJ [] [(false,(.flat tI)),(false,(.flat tI))] (fun s y=>journal_Journal_Close.f s)):=
  zba [] [] _ _ _ _ _ Tryz.func11 rfl (fun s y=>by kernel_rfl)
noncomputable def journal_Journal_Close.h:Hnd Tryz.prog:={f:=11,h:=_,ok:=zgy (p:=zyl) (zg6 [] [] 1 Tryz.func11 rfl) journal_Journal_Close.ok,ent:=ent Tryz.func11 (by kernel_rfl) rfl}

noncomputable def journal_copied_2.h:Hnd Tryz.prog:={f:=47,h:=_,ok:=zbr [slices_Clone_entry_Leg.h] [] 1 Tryz.func47 rfl,ent:=ent Tryz.func47 (by kernel_rfl) rfl}

theorem journal_Journal_At.ok:zab Tryz.prog 12 (zkh 109 kJ [(false,tI)] [(true,(.flat tE)),(false,(.flat tI)),(false,(.flat tI))] (fun s y=>journal_Journal_At.f s y)):=
  zba [journal_copied_2.h] [⟨3,3,[],[(.norm,[.sl 11 false .bool])],0⟩] _ _ _ _ _ Tryz.func12 rfl (fun s y=>by kernel_rfl)
noncomputable def journal_Journal_At.h:Hnd Tryz.prog:={f:=12,h:=_,ok:=zgy (p:=zyl) (zg6 [journal_copied_2.h] [] 2 Tryz.func12 rfl) journal_Journal_At.ok,ent:=ent Tryz.func12 (by kernel_rfl) rfl}

theorem journal_Journal_Period.ok:zab Tryz.prog 15 (zkh 109 kJ [] [(false,(.flat tI))] (fun s y=>journal_Journal_Period.f s)):=
  zba [] [] _ _ _ _ _ Tryz.func15 rfl (fun s y=>by kernel_rfl)
noncomputable def journal_Journal_Period.h:Hnd Tryz.prog:={f:=15,h:=_,ok:=zgy (p:=zyl) (zg6 [] [] 1 Tryz.func15 rfl) journal_Journal_Period.ok,ent:=ent Tryz.func15 (by kernel_rfl) rfl}

theorem journal_Journal_Len.ok:zab Tryz.prog 16 (zkh 109 kJ [] [(false,(.flat tI))] (fun s y=>journal_Journal_Len.f s)):=
  zba [] [] _ _ _ _ _ Tryz.func16 rfl (fun s y=>by kernel_rfl)
noncomputable def journal_Journal_Len.h:Hnd Tryz.prog:={f:=16,h:=_,ok:=zgy (p:=zyl) (zg6 [] [] 1 Tryz.func16 rfl) journal_Journal_Len.ok,ent:=ent Tryz.func16 (by kernel_rfl) rfl}

theorem funds_New.ok:zab Tryz.prog 71 (hdl [] [.dts 0 kQ] (fun y=>funds_New.f)):=
  zan [] [] _ _ _ Tryz.func71 rfl (by kernel_rfl) (by kernel_rfl) (fun y=>by kernel_rfl)
noncomputable def funds_New.h:Hnd Tryz.prog:={f:=71,h:=_,ok:=funds_New.ok,ent:=ent Tryz.func71 (by kernel_rfl) rfl}

theorem funds_node.ok:zab Tryz.prog 123 (hdl [(false,tI)] [.sl 0 false .bool] (fun y=>funds_node.f y)):=
  zan [] [⟨3,1,[],[(.norm,[.sl 2 false .bool])],0⟩] _ _ _ Tryz.func123 rfl (by kernel_rfl) (by kernel_rfl) (fun y=>by kernel_rfl)
noncomputable def funds_node.h:Hnd Tryz.prog:={f:=123,h:=_,ok:=funds_node.ok,ent:=ent Tryz.func123 (by kernel_rfl) rfl,v:=some (zdo _ _ _),vok:=by intro g h;obtain rfl:=Option.some.inj h;exact zag (by kernel_rfl) funds_node.ok,c:=true,cok:=by intro _ g h;obtain rfl:=Option.some.inj h;exact zb1 (by kernel_rfl) (by kernel_rfl) funds_node.ok}

theorem funds_amount.ok:zab Tryz.prog 124 (hdl [(false,tI)] [.sl 0 false .bool] (fun y=>funds_amount.f y)):=
  zan [] [⟨3,1,[],[(.norm,[.sl 2 false .bool])],0⟩] _ _ _ Tryz.func124 rfl (by kernel_rfl) (by kernel_rfl) (fun y=>by kernel_rfl)
noncomputable def funds_amount.h:Hnd Tryz.prog:={f:=124,h:=_,ok:=funds_amount.ok,ent:=ent Tryz.func124 (by kernel_rfl) rfl,v:=some (zdo _ _ _),vok:=by intro g h;obtain rfl:=Option.some.inj h;exact zag (by kernel_rfl) funds_amount.ok,c:=true,cok:=by intro _ g h;obtain rfl:=Option.some.inj h;exact zb1 (by kernel_rfl) (by kernel_rfl) funds_amount.ok}

theorem funds_Account_left.ok:zab Tryz.prog 126 (hdl [(true,tV)] [.sl 0 false tI] (fun y=>funds_Account_left.f y)):=
  zan [] [] _ _ _ Tryz.func126 rfl (by kernel_rfl) (by kernel_rfl) (fun y=>by kernel_rfl)
noncomputable def funds_Account_left.h:Hnd Tryz.prog:={f:=126,h:=_,ok:=funds_Account_left.ok,ent:=ent Tryz.func126 (by kernel_rfl) rfl,v:=some (zdo _ _ _),vok:=by intro g h;obtain rfl:=Option.some.inj h;exact zag (by kernel_rfl) funds_Account_left.ok,c:=true,cok:=by intro _ g h;obtain rfl:=Option.some.inj h;exact zb1 (by kernel_rfl) (by kernel_rfl) funds_Account_left.ok}

theorem slices_Index___int_int.ok:zab Tryz.prog 127 (hdl [(false,(.slice tI)),(false,tI)] [.sl 0 false tI] (fun y=>slices_Index___int_int.f y.1 y.2)):=
  zan [] [⟨0,2,[.sl 8 false tI],[(.ret,[.sl 4 false tI]),(.exit 0,[])],0⟩] _ _ _ Tryz.func127 rfl (by kernel_rfl) (by kernel_rfl) (fun y=>by kernel_rfl)
noncomputable def slices_Index___int_int.h:Hnd Tryz.prog:={f:=127,h:=_,ok:=slices_Index___int_int.ok,ent:=ent Tryz.func127 (by kernel_rfl) rfl,v:=some (zdo _ _ _),vok:=by intro g h;obtain rfl:=Option.some.inj h;exact zag (by kernel_rfl) slices_Index___int_int.ok}

theorem slices_Contains___int_int.ok:zab Tryz.prog 78 (hdl [(false,(.slice tI)),(false,tI)] [.sl 0 false .bool] (fun y=>slices_Contains___int_int.f y.1 y.2)):=
  zan [slices_Index___int_int.h] [] _ _ _ Tryz.func78 rfl (by kernel_rfl) (by kernel_rfl) (fun y=>by kernel_rfl)
noncomputable def slices_Contains___int_int.h:Hnd Tryz.prog:={f:=78,h:=_,ok:=slices_Contains___int_int.ok,ent:=ent Tryz.func78 (by kernel_rfl) rfl,v:=some (zdo _ _ _),vok:=by intro g h;obtain rfl:=Option.some.inj h;exact zag (by kernel_rfl) slices_Contains___int_int.ok}

theorem funds_Book_path.ok:zab Tryz.prog 164 (zkh 175 kB [(false,(.slice tI))] [(false,(.flat .bool))] (fun s y=>funds_Book_path.f s y)):=
  zba [slices_Contains___int_int.h,funds_node.h] [⟨3,1,[],[(.norm,[.sl 18 false .bool])],0⟩,⟨0,4,[.sl 21 false tI],[(.ret,[.sl 4 false .bool]),(.exit 0,[])],0⟩,⟨3,6,[],[(.norm,[.sl 35 false .bool])],0⟩] _ _ _ _ _ Tryz.func164 rfl (fun s y=>by kernel_rfl)
noncomputable def funds_Book_path.h:Hnd Tryz.prog:={f:=164,h:=_,ok:=funds_Book_path.ok,ent:=ent Tryz.func164 (by kernel_rfl) rfl}

noncomputable def funds_Book_limited_1.h:Hnd Tryz.prog:={f:=166,h:=_,ok:=zbr [] [⟨3,1,[],[(.norm,[.sl 2 false .bool])],0⟩] 1 Tryz.func166 rfl,ent:=ent Tryz.func166 (by kernel_rfl) rfl}

noncomputable def slices_IndexFunc___int_int.h:Hnd Tryz.prog:={f:=191,h:=_,ok:=zbr [funds_Book_limited_1.h] [⟨0,2,[.sl 8 false tI],[(.ret,[.sl 4 false tI]),(.exit 0,[])],0⟩] 2 Tryz.func191 rfl,ent:=ent Tryz.func191 (by kernel_rfl) rfl}

noncomputable def slices_ContainsFunc___int_int.h:Hnd Tryz.prog:={f:=165,h:=_,ok:=zbr [slices_IndexFunc___int_int.h] [⟨3,1,[],[(.norm,[.sl 4 false .bool])],0⟩] 2 Tryz.func165 rfl,ent:=ent Tryz.func165 (by kernel_rfl) rfl}

theorem funds_Book_limited.ok:zab Tryz.prog 128 (zkh 175 kB [(false,(.slice tI)),(false,(.slice tI))] [(false,(.flat .bool))] (fun s y=>funds_Book_limited.f s y.1 y.2)):=
  zba [funds_Book_path.h,slices_ContainsFunc___int_int.h] [⟨3,1,[.opn 0 175 1,.dtc 0 0 kB],[(.norm,[.sl 17 false .bool,.opn 0 175 1,.dtc 0 0 kB])],0⟩] _ _ _ _ _ Tryz.func128 rfl (fun s y=>by kernel_rfl)
noncomputable def funds_Book_limited.h:Hnd Tryz.prog:={f:=128,h:=_,ok:=funds_Book_limited.ok,ent:=ent Tryz.func128 (by kernel_rfl) rfl}

theorem funds_Book_Get.ok:zab Tryz.prog 98 (zkh 175 kB [(false,tI)] [(true,(.flat tV))] (fun s y=>funds_Book_Get.f s y)):=
  zba [] [] _ _ _ _ _ Tryz.func98 rfl (fun s y=>by kernel_rfl)
noncomputable def funds_Book_Get.h:Hnd Tryz.prog:={f:=98,h:=_,ok:=funds_Book_Get.ok,ent:=ent Tryz.func98 (by kernel_rfl) rfl}

theorem funds_Book_Available.ok:zab Tryz.prog 79 (zkh 175 kB [(false,tI)] [(false,(.flat tI))] (fun s y=>funds_Book_Available.f s y)):=
  zba [funds_Book_Get.h,funds_Account_left.h] [] _ _ _ _ _ Tryz.func79 rfl (fun s y=>by kernel_rfl)
noncomputable def funds_Book_Available.h:Hnd Tryz.prog:={f:=79,h:=_,ok:=funds_Book_Available.ok,ent:=ent Tryz.func79 (by kernel_rfl) rfl}

theorem funds_Book_set.ok:zab Tryz.prog 125 (zkh 175 kB [(false,tI),(true,tV)] [] (fun s y=>funds_Book_set.f s y.1 y.2)):=
  zba [] [] _ _ _ _ _ Tryz.func125 rfl (fun s y=>by kernel_rfl)
noncomputable def funds_Book_set.h:Hnd Tryz.prog:={f:=125,h:=_,ok:=funds_Book_set.ok,ent:=ent Tryz.func125 (by kernel_rfl) rfl}

theorem funds_Book_TopUp.ok:zab Tryz.prog 74 (zkh 175 kB [(false,tI),(false,tI)] [(false,(.flat tI))] (fun s y=>funds_Book_TopUp.f s y.1 y.2)):=
  zba [funds_node.h,funds_amount.h,funds_Book_set.h] [⟨3,1,[],[(.norm,[.sl 19 false .bool])],0⟩] _ _ _ _ _ Tryz.func74 rfl (fun s y=>by kernel_rfl)
noncomputable def funds_Book_TopUp.h:Hnd Tryz.prog:={f:=74,h:=_,ok:=funds_Book_TopUp.ok,ent:=ent Tryz.func74 (by kernel_rfl) rfl}

theorem funds_Book_move.ok:zab Tryz.prog 130 (zkh 175 kB [(false,(.slice tI)),(true,tV)] [] (fun s y=>funds_Book_move.f s y.1 y.2)):=
  zba [funds_Book_set.h] [⟨0,2,[.sl 11 false tI,.opn 0 175 1,.dtc 0 0 kB],[(.exit 0,[.opn 0 175 1,.dtc 0 0 kB])],0⟩] _ _ _ _ _ Tryz.func130 rfl (fun s y=>by kernel_rfl)
noncomputable def funds_Book_move.h:Hnd Tryz.prog:={f:=130,h:=_,ok:=funds_Book_move.ok,ent:=ent Tryz.func130 (by kernel_rfl) rfl}

theorem funds_Book_Hold.ok:zab Tryz.prog 82 (zkh 175 kB [(false,(.slice tI)),(false,(.slice tI)),(false,tI)] [(false,(.flat tI))] (fun s y=>funds_Book_Hold.f s y.1 y.2.1 y.2.2)):=
  zba [funds_amount.h,funds_Account_left.h,funds_Book_limited.h,funds_Book_move.h] [⟨3,1,[.opn 0 175 1,.dtc 0 0 kB],[(.norm,[.sl 21 false .bool,.opn 0 175 1,.dtc 0 0 kB])],0⟩,⟨0,4,[.sl 24 false tI],[(.ret,[.sl 8 false tI]),(.exit 0,[])],0⟩,⟨3,9,[],[(.norm,[.sl 40 false .bool])],0⟩] _ _ _ _ _ Tryz.func82 rfl (fun s y=>by kernel_rfl)
noncomputable def funds_Book_Hold.h:Hnd Tryz.prog:={f:=82,h:=_,ok:=funds_Book_Hold.ok,ent:=ent Tryz.func82 (by kernel_rfl) rfl}

theorem funds_within.ok:zab Tryz.prog 172 (hdl [(false,tI)] [.sl 0 false .bool] (fun y=>funds_within.f y)):=
  zan [] [⟨3,1,[],[(.norm,[.sl 2 false .bool])],0⟩] _ _ _ Tryz.func172 rfl (by kernel_rfl) (by kernel_rfl) (fun y=>by kernel_rfl)
noncomputable def funds_within.h:Hnd Tryz.prog:={f:=172,h:=_,ok:=funds_within.ok,ent:=ent Tryz.func172 (by kernel_rfl) rfl,v:=some (zdo _ _ _),vok:=by intro g h;obtain rfl:=Option.some.inj h;exact zag (by kernel_rfl) funds_within.ok,c:=true,cok:=by intro _ g h;obtain rfl:=Option.some.inj h;exact zb1 (by kernel_rfl) (by kernel_rfl) funds_within.ok}

theorem funds_Account_right.ok:zab Tryz.prog 143 (hdl [(true,tV)] [.sl 0 false .bool] (fun y=>funds_Account_right.f y)):=
  zan [funds_Account_left.h,funds_within.h] [⟨0,2,[.sl 17 false tI],[(.ret,[.sl 2 false .bool]),(.exit 0,[])],0⟩,⟨3,7,[],[(.norm,[.sl 2 false .bool])],0⟩] _ _ _ Tryz.func143 rfl (by kernel_rfl) (by kernel_rfl) (fun y=>by kernel_rfl)
noncomputable def funds_Account_right.h:Hnd Tryz.prog:={f:=143,h:=_,ok:=funds_Account_right.ok,ent:=ent Tryz.func143 (by kernel_rfl) rfl,v:=some (zdo _ _ _),vok:=by intro g h;obtain rfl:=Option.some.inj h;exact zag (by kernel_rfl) funds_Account_right.ok,c:=true,cok:=by intro _ g h;obtain rfl:=Option.some.inj h;exact zb1 (by kernel_rfl) (by kernel_rfl) funds_Account_right.ok}

theorem funds_Book_Set.ok:zab Tryz.prog 101 (zkh 175 kB [(false,tI),(true,tV)] [(false,(.flat tI))] (fun s y=>funds_Book_Set.f s y.1 y.2)):=
  zba [funds_node.h,funds_Book_set.h,funds_Account_right.h] [⟨3,1,[],[(.norm,[.sl 18 false .bool])],0⟩] _ _ _ _ _ Tryz.func101 rfl (fun s y=>by kernel_rfl)
noncomputable def funds_Book_Set.h:Hnd Tryz.prog:={f:=101,h:=_,ok:=funds_Book_Set.ok,ent:=ent Tryz.func101 (by kernel_rfl) rfl}

theorem period_New.ok:zab Tryz.prog 29 (hdl [] [.dts 0 (.ptr 145 (.pair kQ kP))] (fun y=>period_New.f)):=
  zan [journal_New.h,funds_New.h] [] _ _ _ Tryz.func29 rfl (by kernel_rfl) (by kernel_rfl) (fun y=>by kernel_rfl)
noncomputable def period_New.h:Hnd Tryz.prog:={f:=29,h:=_,ok:=period_New.ok,ent:=ent Tryz.func29 (by kernel_rfl) rfl}

theorem period_Purse_post.ok:zab Tryz.prog 121 (zkh 145 (.pair kQ kP) [(false,tI),(false,tI),(false,(.slice tI)),(false,tI)] [(false,(.flat tI))] (fun s y=>period_Purse_post.f s y.1 y.2.1 y.2.2.1 y.2.2.2)):=
  zba [journal_Journal_Post.h,entry_Make.h] [] _ _ _ _ _ Tryz.func121 rfl (fun s y=>by kernel_rfl)
noncomputable def period_Purse_post.h:Hnd Tryz.prog:={f:=121,h:=_,ok:=period_Purse_post.ok,ent:=ent Tryz.func121 (by kernel_rfl) rfl}

noncomputable def period_Purse_TopUp_1.h:Hnd Tryz.prog:={f:=73,h:=_,ok:=zbr [funds_Book_TopUp.h] [] 3 Tryz.func73 rfl,ent:=ent Tryz.func73 (by kernel_rfl) rfl}

noncomputable def period_Purse_saved.h:Hnd Tryz.prog:={f:=120,h:=_,ok:=zbr [funds_Book_Get.h] [⟨0,3,[.sl 11 false tI,.opn 1 175 1,.dtc 1 0 kB,.mp 1000 ⟨3,97,false,tI,true,tV⟩],[(.exit 0,[.opn 1 175 1,.dtc 1 0 kB,.mp 1000 ⟨3,97,false,tI,true,tV⟩])],0⟩] 2 Tryz.func120 rfl,ent:=ent Tryz.func120 (by kernel_rfl) rfl}

noncomputable def period_Purse_restore.h:Hnd Tryz.prog:={f:=122,h:=_,ok:=zbr [funds_Book_Set.h] [⟨5,1,[.opn 14 175 1,.dtc 14 0 kB],[(.exit 0,[.opn 14 175 1,.dtc 14 0 kB])],0⟩] 2 Tryz.func122 rfl,ent:=ent Tryz.func122 (by kernel_rfl) rfl}

noncomputable def period_Purse_both.h:Hnd Tryz.prog:={f:=72,h:=_,ok:=zbr [period_Purse_TopUp_1.h,period_Purse_saved.h,period_Purse_post.h,period_Purse_restore.h] [] 6 Tryz.func72 rfl,ent:=ent Tryz.func72 (by kernel_rfl) rfl}

theorem period_Purse_TopUp.ok:zab Tryz.prog 31 (zkh 145 (.pair kQ kP) [(false,tI),(false,tI)] [(false,(.flat tI))] (fun s y=>period_Purse_TopUp.f s y.1 y.2)):=
  zba [period_Purse_both.h] [⟨3,1,[.opn 0 145 2,.dtc 0 0 kQ,.dtc 0 1 kP],[(.norm,[.sl 6 false tI,.opn 0 145 2,.dtc 0 0 kQ,.dtc 0 1 kP])],0⟩] _ _ _ _ _ Tryz.func31 rfl (fun s y=>by kernel_rfl)
noncomputable def period_Purse_TopUp.h:Hnd Tryz.prog:={f:=31,h:=_,ok:=zgy (p:=zyl) (zg6 [period_Purse_both.h] [] 3 Tryz.func31 rfl) period_Purse_TopUp.ok,ent:=ent Tryz.func31 (by kernel_rfl) rfl}

noncomputable def period_Purse_Hold_1.h:Hnd Tryz.prog:={f:=81,h:=_,ok:=zbr [funds_Book_Hold.h] [] 4 Tryz.func81 rfl,ent:=ent Tryz.func81 (by kernel_rfl) rfl}

noncomputable def period_Purse_saved_2.h:Hnd Tryz.prog:={f:=120,h:=_,ok:=zbr [funds_Book_Get.h] [⟨0,3,[.sl 11 false tI,.opn 1 175 1,.dtc 1 0 kB,.mp 1000 ⟨3,97,false,tI,true,tV⟩],[(.exit 0,[.opn 1 175 1,.dtc 1 0 kB,.mp 1000 ⟨3,97,false,tI,true,tV⟩])],0⟩] 2 Tryz.func120 rfl,ent:=ent Tryz.func120 (by kernel_rfl) rfl}

noncomputable def period_Purse_restore_2.h:Hnd Tryz.prog:={f:=122,h:=_,ok:=zbr [funds_Book_Set.h] [⟨5,1,[.opn 14 175 1,.dtc 14 0 kB],[(.exit 0,[.opn 14 175 1,.dtc 14 0 kB])],0⟩] 2 Tryz.func122 rfl,ent:=ent Tryz.func122 (by kernel_rfl) rfl}

noncomputable def period_Purse_both_2.h:Hnd Tryz.prog:={f:=72,h:=_,ok:=zbr [period_Purse_Hold_1.h,period_Purse_saved_2.h,period_Purse_post.h,period_Purse_restore_2.h] [] 6 Tryz.func72 rfl,ent:=ent Tryz.func72 (by kernel_rfl) rfl}

theorem period_Purse_Hold.ok:zab Tryz.prog 37 (zkh 145 (.pair kQ kP) [(false,(.slice tI)),(false,(.slice tI)),(false,tI)] [(false,(.flat tI))] (fun s y=>period_Purse_Hold.f s y.1 y.2.1 y.2.2)):=
  zba [period_Purse_both_2.h] [⟨3,1,[.opn 0 145 2,.dtc 0 0 kQ,.dtc 0 1 kP],[(.norm,[.sl 8 false tI,.opn 0 145 2,.dtc 0 0 kQ,.dtc 0 1 kP])],0⟩] _ _ _ _ _ Tryz.func37 rfl (fun s y=>by kernel_rfl)
noncomputable def period_Purse_Hold.h:Hnd Tryz.prog:={f:=37,h:=_,ok:=zgy (p:=zyl) (zg6 [period_Purse_both_2.h] [] 4 Tryz.func37 rfl) period_Purse_Hold.ok,ent:=ent Tryz.func37 (by kernel_rfl) rfl}

theorem purserref08_same.ok:zab Tryz.prog 112 (hdl [(true,(.pair tI tA)),(true,(.pair tI tA))] [.sl 0 false .bool] (fun y=>purserref08_same.f y.1 y.2)):=
  zan [] [⟨3,1,[],[(.norm,[.sl 4 false .bool])],0⟩] _ _ _ Tryz.func112 rfl (by kernel_rfl) (by kernel_rfl) (fun y=>by kernel_rfl)
noncomputable def purserref08_same.h:Hnd Tryz.prog:={f:=112,h:=_,ok:=purserref08_same.ok,ent:=ent Tryz.func112 (by kernel_rfl) rfl,v:=some (zdo _ _ _),vok:=by intro g h;obtain rfl:=Option.some.inj h;exact zag (by kernel_rfl) purserref08_same.ok,c:=true,cok:=by intro _ g h;obtain rfl:=Option.some.inj h;exact zb1 (by kernel_rfl) (by kernel_rfl) purserref08_same.ok}

theorem purserref07_account.ok:zab Tryz.prog 111 (hdl [(true,(.pair tI tA))] [.sl 0 false .bool] (fun y=>purserref07_account.f y)):=
  zan [] [⟨3,1,[],[(.norm,[.sl 3 false .bool])],0⟩,⟨3,4,[],[(.norm,[.sl 2 false .bool])],0⟩,⟨3,8,[],[(.norm,[.sl 2 false .bool])],0⟩,⟨3,10,[],[(.norm,[.sl 2 false .bool])],0⟩] _ _ _ Tryz.func111 rfl (by kernel_rfl) (by kernel_rfl) (fun y=>by kernel_rfl)
noncomputable def purserref07_account.h:Hnd Tryz.prog:={f:=111,h:=_,ok:=purserref07_account.ok,ent:=ent Tryz.func111 (by kernel_rfl) rfl,v:=some (zdo _ _ _),vok:=by intro g h;obtain rfl:=Option.some.inj h;exact zag (by kernel_rfl) purserref07_account.ok,c:=true,cok:=by intro _ g h;obtain rfl:=Option.some.inj h;exact zb1 (by kernel_rfl) (by kernel_rfl) purserref07_account.ok}

theorem purserref07_rises.ok:zab Tryz.prog 67 (hdl [(true,(.pair tI tA)),(true,(.pair tI tA))] [.sl 0 false .bool] (fun y=>purserref07_rises.f y.1 y.2)):=
  zan [] [] _ _ _ Tryz.func67 rfl (by kernel_rfl) (by kernel_rfl) (fun y=>by kernel_rfl)
noncomputable def purserref07_rises.h:Hnd Tryz.prog:={f:=67,h:=_,ok:=purserref07_rises.ok,ent:=ent Tryz.func67 (by kernel_rfl) rfl,v:=some (zdo _ _ _),vok:=by intro g h;obtain rfl:=Option.some.inj h;exact zag (by kernel_rfl) purserref07_rises.ok,c:=true,cok:=by intro _ g h;obtain rfl:=Option.some.inj h;exact zb1 (by kernel_rfl) (by kernel_rfl) purserref07_rises.ok}

theorem purserref07_Check.ok:zab Tryz.prog 54 (hdl [(true,tF)] [.sl 0 false tI] (fun y=>purserref07_Check.f y)):=
  zan [purserref07_rises.h,purserref07_account.h] [⟨3,1,[],[(.norm,[.sl 13 false .bool])],0⟩,⟨3,3,[],[(.norm,[.sl 23 false .bool])],0⟩,⟨0,7,[.sl 3 false tI,.sl 4 false tI],[(.ret,[.sl 2 false tI]),(.exit 0,[.sl 3 false tI])],0⟩,⟨3,12,[],[(.norm,[.sl 51 false .bool])],0⟩,⟨3,14,[],[(.norm,[.sl 64 false .bool])],0⟩] _ _ _ Tryz.func54 rfl (by kernel_rfl) (by kernel_rfl) (fun y=>by kernel_rfl)
noncomputable def purserref07_Check.h:Hnd Tryz.prog:={f:=54,h:=_,ok:=purserref07_Check.ok,ent:=ent Tryz.func54 (by kernel_rfl) rfl,v:=some (zdo _ _ _),vok:=by intro g h;obtain rfl:=Option.some.inj h;exact zag (by kernel_rfl) purserref07_Check.ok}

theorem purserref07_Make.ok:zab Tryz.prog 27 (hdl [(false,tI),(false,tI),(false,(.slice tI)),(false,tI)] [.sl 0 true tF,.sl 1 false tI] (fun y=>purserref07_Make.f y.1 y.2.1 y.2.2.1 y.2.2.2)):=
  zan [purserref07_Check.h,purserref07_rises.h] [⟨3,1,[],[(.norm,[.sl 26 false .bool])],0⟩,⟨3,3,[],[(.norm,[.sl 10 false .bool])],0⟩,⟨0,5,[.sl 10 false .bool,.sl 11 false tI],[(.exit 0,[.sl 10 false .bool])],0⟩,⟨3,5,[],[(.norm,[.sl 51 false .bool])],0⟩,⟨0,8,[.sl 10 false .bool,.sl 12 false tI],[(.exit 2,[.sl 10 false .bool])],0⟩,⟨3,10,[],[(.norm,[.sl 10 false .bool])],0⟩,⟨1,82,[.opn 1 52 2,.cl 1 0 tI,.dtc 1 1 (.row (.pair tI tA) 61)],[(.norm,[.opn 1 52 2,.cl 1 0 tI,.dtc 1 1 (.row (.pair tI tA) 61)])],0⟩,⟨0,19,[.sl 16 false tI,.opn 1 52 2,.cl 1 0 tI,.dtc 1 1 (.row (.pair tI tA) 61)],[(.exit 4,[.opn 1 52 2,.cl 1 0 tI,.dtc 1 1 (.row (.pair tI tA) 61)])],0⟩,⟨0,22,[.sl 17 false tI,.opn 1 52 2,.cl 1 0 tI,.dtc 1 1 (.row (.pair tI tA) 61)],[(.exit 6,[.opn 1 52 2,.cl 1 0 tI,.dtc 1 1 (.row (.pair tI tA) 61)])],0⟩,⟨2,7,[.opn 1 52 2,.cl 1 0 tI,.dtc 1 1 (.row (.pair tI tA) 61)],[(.norm,[.opn 1 52 2,.cl 1 0 tI,.dtc 1 1 (.row (.pair tI tA) 61)])],0⟩,⟨1,111,[.dtb 5 61 (.flat (.pair tI tA))],[(.norm,[.dtb 5 61 (.flat (.pair tI tA))])],0⟩,⟨1,119,[.dtb 5 61 (.flat (.pair tI tA))],[(.norm,[.dtb 5 61 (.flat (.pair tI tA))])],0⟩,⟨0,32,[.sl 19 false tI,.rw 7 (.pair tI tA) 61],[(.exit 8,[.rw 7 (.pair tI tA) 61])],0⟩,⟨3,32,[],[(.norm,[.sl 145 false .bool])],0⟩] _ _ _ Tryz.func27 rfl (by kernel_rfl) (by kernel_rfl) (fun y=>by kernel_rfl)
noncomputable def purserref07_Make.h:Hnd Tryz.prog:={f:=27,h:=_,ok:=purserref07_Make.ok,ent:=ent Tryz.func27 (by kernel_rfl) rfl,v:=some (zdo _ _ _),vok:=by intro g h;obtain rfl:=Option.some.inj h;exact zag (by kernel_rfl) purserref07_Make.ok}

theorem purserref14_in.ok:zab Tryz.prog 119 (hdl [(false,tI)] [.sl 0 false .bool] (fun y=>purserref14_in.f y)):=
  zan [] [⟨3,1,[],[(.norm,[.sl 2 false .bool])],0⟩] _ _ _ Tryz.func119 rfl (by kernel_rfl) (by kernel_rfl) (fun y=>by kernel_rfl)
noncomputable def purserref14_in.h:Hnd Tryz.prog:={f:=119,h:=_,ok:=purserref14_in.ok,ent:=ent Tryz.func119 (by kernel_rfl) rfl,v:=some (zdo _ _ _),vok:=by intro g h;obtain rfl:=Option.some.inj h;exact zag (by kernel_rfl) purserref14_in.ok,c:=true,cok:=by intro _ g h;obtain rfl:=Option.some.inj h;exact zb1 (by kernel_rfl) (by kernel_rfl) purserref14_in.ok}

theorem purserref14_Account_Left.ok:zab Tryz.prog 96 (hdl [(true,tV)] [.sl 0 false tI] (fun y=>purserref14_Account_Left.f y)):=
  zan [] [] _ _ _ Tryz.func96 rfl (by kernel_rfl) (by kernel_rfl) (fun y=>by kernel_rfl)
noncomputable def purserref14_Account_Left.h:Hnd Tryz.prog:={f:=96,h:=_,ok:=purserref14_Account_Left.ok,ent:=ent Tryz.func96 (by kernel_rfl) rfl,v:=some (zdo _ _ _),vok:=by intro g h;obtain rfl:=Option.some.inj h;exact zag (by kernel_rfl) purserref14_Account_Left.ok,c:=true,cok:=by intro _ g h;obtain rfl:=Option.some.inj h;exact zb1 (by kernel_rfl) (by kernel_rfl) purserref14_Account_Left.ok}

theorem purserref14_Account_Right.ok:zab Tryz.prog 69 (hdl [(true,tV)] [.sl 0 false .bool] (fun y=>purserref14_Account_Right.f y)):=
  zan [purserref14_Account_Left.h,purserref14_in.h] [⟨3,1,[],[(.norm,[.sl 30 false .bool])],0⟩,⟨3,3,[],[(.norm,[.sl 2 false .bool])],0⟩] _ _ _ Tryz.func69 rfl (by kernel_rfl) (by kernel_rfl) (fun y=>by kernel_rfl)
noncomputable def purserref14_Account_Right.h:Hnd Tryz.prog:={f:=69,h:=_,ok:=purserref14_Account_Right.ok,ent:=ent Tryz.func69 (by kernel_rfl) rfl,v:=some (zdo _ _ _),vok:=by intro g h;obtain rfl:=Option.some.inj h;exact zag (by kernel_rfl) purserref14_Account_Right.ok,c:=true,cok:=by intro _ g h;obtain rfl:=Option.some.inj h;exact zb1 (by kernel_rfl) (by kernel_rfl) purserref14_Account_Right.ok}

theorem purserref28_Account.ok:zab Tryz.prog 68 (hdl [(false,(.slice tF)),(false,(.slice tI)),(false,tI),(false,tI)] [.sl 0 true tV] (fun y=>purserref28_Account.f y.1 y.2.1 y.2.2.1 y.2.2.2)):=
  zan [] [⟨0,4,[.sl 10 false tI,.sl 11 false tI,.dtb 1 87 (.flat tV)],[(.exit 0,[.sl 10 false tI,.dtb 1 87 (.flat tV)])],0⟩,⟨0,7,[.sl 10 false tI,.sl 12 false tI,.dtb 1 87 (.flat tV)],[(.exit 2,[.sl 10 false tI,.dtb 1 87 (.flat tV)])],0⟩,⟨2,3,[.dtb 1 87 (.flat tV)],[(.norm,[.sl 10 false tI,.dtb 1 87 (.flat tV)])],0⟩,⟨1,51,[.dtb 1 87 (.flat tV)],[(.norm,[.sl 10 false tI,.dtb 1 87 (.flat tV)])],0⟩,⟨3,15,[],[(.norm,[.sl 65 false .bool])],0⟩,⟨1,65,[.dtb 1 87 (.flat tV)],[(.norm,[.dtb 1 87 (.flat tV)])],0⟩,⟨1,72,[.dtb 1 87 (.flat tV)],[(.norm,[.dtb 1 87 (.flat tV)])],0⟩,⟨1,80,[.dtb 1 87 (.flat tV)],[(.norm,[.dtb 1 87 (.flat tV)])],0⟩,⟨1,82,[.dtb 1 87 (.flat tV)],[(.norm,[.dtb 1 87 (.flat tV)])],0⟩,⟨1,89,[.dtb 1 87 (.flat tV)],[(.norm,[.dtb 1 87 (.flat tV)])],0⟩,⟨1,91,[.dtb 1 87 (.flat tV)],[(.norm,[.dtb 1 87 (.flat tV)])],0⟩] _ _ _ Tryz.func68 rfl (by kernel_rfl) (by kernel_rfl) (fun y=>by kernel_rfl)
noncomputable def purserref28_Account.h:Hnd Tryz.prog:={f:=68,h:=_,ok:=purserref28_Account.ok,ent:=ent Tryz.func68 (by kernel_rfl) rfl,v:=some (zdo _ _ _),vok:=by intro g h;obtain rfl:=Option.some.inj h;exact zag (by kernel_rfl) purserref28_Account.ok}

theorem purserlaw28_same.ok:zab Tryz.prog 70 (hdl [(false,(.slice (.pair tI tV))),(true,tW)] [.sl 0 false .bool] (fun y=>purserlaw28_same.f y.1 y.2)):=
  zan [] [⟨0,3,[.sl 5 false tI,.sl 6 false tI],[(.ret,[.sl 4 false .bool]),(.exit 0,[.sl 5 false tI])],0⟩,⟨2,1,[],[(.norm,[.sl 5 false tI]),(.ret,[.sl 4 false .bool])],0⟩,⟨3,7,[],[(.norm,[.sl 49 false .bool])],0⟩] _ _ _ Tryz.func70 rfl (by kernel_rfl) (by kernel_rfl) (fun y=>by kernel_rfl)
noncomputable def purserlaw28_same.h:Hnd Tryz.prog:={f:=70,h:=_,ok:=purserlaw28_same.ok,ent:=ent Tryz.func70 (by kernel_rfl) rfl,v:=some (zdo _ _ _),vok:=by intro g h;obtain rfl:=Option.some.inj h;exact zag (by kernel_rfl) purserlaw28_same.ok}

noncomputable def keys140.h:Hnd Tryz.prog:={f:=140,h:=Kv142.keysHdl,ok:=Kv142.keys_ok (fun h=>h),ent:=ent Tryz.func140 (by kernel_rfl) rfl}

noncomputable def sort141.h:Hnd Tryz.prog:={f:=141,h:=zj2,ok:=Sx,ent:=ent Tryz.func141 (by kernel_rfl) rfl}

theorem replay_replay_leg.ok:zab Tryz.prog 151 (zkh 198 (.pair (.flat tI) (.mapD ⟨3,222,false,tI,false,.bool⟩ (.ptr 225 (.flat (.pair tI tV))))) [(true,(.pair tA tI)),(false,tI),(false,tI)] [] (fun s y=>replay_replay_leg.f s y.1 y.2.1 y.2.2)):=
  zba [] [⟨1,45,[.dtb 3 225 (.flat (.pair tI tV))],[(.norm,[.dtb 3 225 (.flat (.pair tI tV))])],0⟩,⟨3,11,[],[(.norm,[.sl 60 false .bool])],0⟩,⟨1,60,[.dtb 3 225 (.flat (.pair tI tV))],[(.norm,[.dtb 3 225 (.flat (.pair tI tV))])],0⟩,⟨1,72,[.dtb 3 225 (.flat (.pair tI tV))],[(.norm,[.dtb 3 225 (.flat (.pair tI tV))])],0⟩,⟨1,85,[.dtb 3 225 (.flat (.pair tI tV))],[(.norm,[.dtb 3 225 (.flat (.pair tI tV))])],0⟩,⟨1,87,[.dtb 3 225 (.flat (.pair tI tV))],[(.norm,[.dtb 3 225 (.flat (.pair tI tV))])],0⟩,⟨1,99,[.dtb 3 225 (.flat (.pair tI tV))],[(.norm,[.dtb 3 225 (.flat (.pair tI tV))])],0⟩,⟨1,101,[.dtb 3 225 (.flat (.pair tI tV))],[(.norm,[.dtb 3 225 (.flat (.pair tI tV))])],0⟩] _ _ _ _ _ Tryz.func151 rfl (fun s y=>by kernel_rfl)
noncomputable def replay_replay_leg.h:Hnd Tryz.prog:={f:=151,h:=_,ok:=replay_replay_leg.ok,ent:=ent Tryz.func151 (by kernel_rfl) rfl}

noncomputable def keys140_204.h:Hnd Tryz.prog:={f:=140,h:=Kv204.keysHdlD,ok:=Kv204.keysD_ok (fun h=>h),ent:=ent Tryz.func140 (by kernel_rfl) rfl}

noncomputable def slices_Sorted_int_2.h:Hnd Tryz.prog:={f:=99,h:=_,ok:=zbr [keys140_204.h,sort141.h] [] 1 Tryz.func99 rfl,ent:=ent Tryz.func99 (by kernel_rfl) rfl}

noncomputable def maps_Keys_replay_sums.h:Hnd Tryz.prog:={f:=185,h:=_,ok:=zbr [] [] 1 Tryz.func185 rfl,ent:=ent Tryz.func185 (by kernel_rfl) rfl}

theorem replay_replay_rows.ok:zab Tryz.prog 152 (zkh 198 (.pair (.flat tI) (.mapD ⟨3,222,false,tI,false,.bool⟩ (.ptr 225 (.flat (.pair tI tV))))) [] [(false,(.row (.pair tI tV) 130)),(false,(.flat tI))] (fun s y=>replay_replay_rows.f s)):=
  zba [funds_New.h,slices_Sorted_int_2.h,funds_Book_Set.h,maps_Keys_replay_sums.h] [⟨0,4,[.dts 5 (.row (.pair tI tV) 130),.sl 18 false tI,.mpD 1 ⟨3,222,false,tI,false,.bool⟩ (.ptr 225 (.flat (.pair tI tV))),.opn 2 175 1,.dtc 2 0 kB],[(.ret,[.dts 2 (.row (.pair tI tV) 130),.sl 3 false tI,.mpD 1 ⟨3,222,false,tI,false,.bool⟩ (.ptr 225 (.flat (.pair tI tV))),.opn 2 175 1,.dtc 2 0 kB]),(.exit 0,[.dts 5 (.row (.pair tI tV) 130),.mpD 1 ⟨3,222,false,tI,false,.bool⟩ (.ptr 225 (.flat (.pair tI tV))),.opn 2 175 1,.dtc 2 0 kB])],0⟩,⟨1,56,[.dts 5 (.row (.pair tI tV) 130)],[(.norm,[.dts 5 (.row (.pair tI tV) 130)])],0⟩] _ _ _ _ _ Tryz.func152 rfl (fun s y=>by kernel_rfl)
noncomputable def replay_replay_rows.h:Hnd Tryz.prog:={f:=152,h:=_,ok:=replay_replay_rows.ok,ent:=ent Tryz.func152 (by kernel_rfl) rfl}

noncomputable def replay_run.h:Hnd Tryz.prog:={f:=114,h:=_,ok:=zbr [journal_Journal_At.h,replay_replay_leg.h,replay_replay_rows.h] [⟨0,3,[.sl 20 false tI,.opn 0 109 4,.dtc 0 0 kR,.cl 0 1 tI,.dtc 0 2 kK,.dtc 0 3 kM,.opn 1001 198 2,.cl 1001 0 tI,.dtc 1001 1 (.mapD ⟨3,222,false,tI,false,.bool⟩ (.ptr 225 (.flat (.pair tI tV))))],[(.ret,[.dts 6 (.row (.pair tI tV) 130),.sl 7 false tI,.opn 0 109 4,.dtc 0 0 kR,.cl 0 1 tI,.dtc 0 2 kK,.dtc 0 3 kM,.opn 1001 198 2,.cl 1001 0 tI,.dtc 1001 1 (.mapD ⟨3,222,false,tI,false,.bool⟩ (.ptr 225 (.flat (.pair tI tV))))]),(.exit 0,[.opn 0 109 4,.dtc 0 0 kR,.cl 0 1 tI,.dtc 0 2 kK,.dtc 0 3 kM,.opn 1001 198 2,.cl 1001 0 tI,.dtc 1001 1 (.mapD ⟨3,222,false,tI,false,.bool⟩ (.ptr 225 (.flat (.pair tI tV))))])],0⟩,⟨0,9,[.sl 36 false tI,.opn 1001 198 2,.cl 1001 0 tI,.dtc 1001 1 (.mapD ⟨3,222,false,tI,false,.bool⟩ (.ptr 225 (.flat (.pair tI tV))))],[(.exit 2,[.opn 1001 198 2,.cl 1001 0 tI,.dtc 1001 1 (.mapD ⟨3,222,false,tI,false,.bool⟩ (.ptr 225 (.flat (.pair tI tV))))])],0⟩] 3 Tryz.func114 rfl,ent:=ent Tryz.func114 (by kernel_rfl) rfl}

theorem replay_Rows.ok:zab Tryz.prog 58 (zkh 109 kJ [] [(false,(.row (.pair tI tV) 130)),(false,(.flat tI))] (fun s y=>replay_Rows.f s)):=
  zba [journal_Journal_Period.h,journal_Journal_Len.h,replay_run.h] [⟨3,3,[.opn 0 109 4,.dtc 0 0 kR,.cl 0 1 tI,.dtc 0 2 kK,.dtc 0 3 kM],[(.norm,[.dts 2 (.row (.pair tI tV) 130),.sl 3 false tI,.opn 0 109 4,.dtc 0 0 kR,.cl 0 1 tI,.dtc 0 2 kK,.dtc 0 3 kM])],0⟩] _ _ _ _ _ Tryz.func58 rfl (fun s y=>by kernel_rfl)
noncomputable def replay_Rows.h:Hnd Tryz.prog:={f:=58,h:=_,ok:=zgy (p:=zyl) (zg6 [journal_Journal_Period.h,journal_Journal_Len.h,replay_run.h] [] 1 Tryz.func58 rfl) replay_Rows.ok,ent:=ent Tryz.func58 (by kernel_rfl) rfl}

theorem replay_Upto.ok:zab Tryz.prog 59 (zkh 109 kJ [(false,tI)] [(false,(.row (.pair tI tV) 130)),(false,(.flat tI))] (fun s y=>replay_Upto.f s y)):=
  zba [journal_Journal_At.h,journal_Journal_Len.h,replay_run.h] [⟨3,1,[.opn 0 109 4,.dtc 0 0 kR,.cl 0 1 tI,.dtc 0 2 kK,.dtc 0 3 kM],[(.norm,[.sl 20 false .bool,.opn 0 109 4,.dtc 0 0 kR,.cl 0 1 tI,.dtc 0 2 kK,.dtc 0 3 kM])],0⟩,⟨3,4,[.opn 0 109 4,.dtc 0 0 kR,.cl 0 1 tI,.dtc 0 2 kK,.dtc 0 3 kM],[(.norm,[.dts 4 (.row (.pair tI tV) 130),.sl 5 false tI,.opn 0 109 4,.dtc 0 0 kR,.cl 0 1 tI,.dtc 0 2 kK,.dtc 0 3 kM])],0⟩] _ _ _ _ _ Tryz.func59 rfl (fun s y=>by kernel_rfl)
noncomputable def replay_Upto.h:Hnd Tryz.prog:={f:=59,h:=_,ok:=zgy (p:=zyl) (zg6 [journal_Journal_At.h,journal_Journal_Len.h,replay_run.h] [] 2 Tryz.func59 rfl) replay_Upto.ok,ent:=ent Tryz.func59 (by kernel_rfl) rfl}

noncomputable def period_Purse_Journal.h:Hnd Tryz.prog:={f:=34,h:=_,ok:=zbr [] [] 1 Tryz.func34 rfl,ent:=ent Tryz.func34 (by kernel_rfl) rfl}

theorem purserlaw28_replays.ok:zab Tryz.prog 25 (hdl [] [.sl 0 false .bool] (fun y=>purserlaw28_replays.f)):=
  zan [period_New.h,period_Purse_TopUp.h,period_Purse_Journal.h,period_Purse_Hold.h,replay_Rows.h,replay_Upto.h] [⟨3,6,[],[(.norm,[.sl 0 false .bool])],0⟩] _ _ _ Tryz.func25 rfl (by kernel_rfl) (by kernel_rfl) (fun y=>by kernel_rfl)
noncomputable def purserlaw28_replays.h:Hnd Tryz.prog:={f:=25,h:=_,ok:=purserlaw28_replays.ok,ent:=ent Tryz.func25 (by kernel_rfl) rfl,v:=some (zdo _ _ _),vok:=by intro g h;obtain rfl:=Option.some.inj h;exact zag (by kernel_rfl) purserlaw28_replays.ok,c:=true,cok:=by intro _ g h;obtain rfl:=Option.some.inj h;exact zb1 (by kernel_rfl) (by kernel_rfl) purserlaw28_replays.ok}

theorem purserlaw28_held.ok:zab Tryz.prog 28 (hdlQ [.ptr 109 kJ,.val false (.slice tF),.val false (.slice tI),.val false tI,.val false tI,.val false .bool] [(false,(.flat .bool))] (fun s y=>purserlaw28_held.f s.1 y.1 y.2.1 y.2.2.1 y.2.2.2.1 y.2.2.2.2)):=
  hdlQ_ok [replay_Rows.h,replay_Upto.h,purserref28_Account.h,purserref14_Account_Right.h,purserlaw28_same.h] [⟨0,4,[.sl 14 false .bool,.sl 15 false tI,.dtb 4 88 (.flat tW)],[(.exit 0,[.sl 14 false .bool,.dtb 4 88 (.flat tW)])],0⟩,⟨3,7,[],[(.norm,[.sl 14 false .bool])],0⟩,⟨3,12,[],[(.norm,[.sl 12 false .bool])],0⟩,⟨3,13,[],[(.norm,[.sl 12 false .bool])],0⟩] _ _ _ Tryz.func28 rfl (fun s y=>by kernel_rfl)
noncomputable def purserlaw28_held.h:Hnd Tryz.prog:={f:=28,h:=_,ok:=purserlaw28_held.ok,ent:=ent Tryz.func28 (by kernel_rfl) rfl}

theorem purserlaw28_ReplayAny.ok:zab Tryz.prog 4 (hdl [(false,(.slice (.pair .bool (.pair tI tA)))),(false,tI)] [.sl 0 false .bool] (fun y=>purserlaw28_ReplayAny.f y.1 y.2)):=
  zan [journal_Journal_Post.h,journal_Journal_Close.h,journal_Journal_Period.h,journal_New.h,purserlaw28_replays.h,entry_Make.h,purserref07_Make.h,purserlaw28_held.h] [⟨0,7,[.dts 6 kE,.dts 7 (.row tI 3),.sl 8 false tI,.opn 0 109 4,.dtc 0 0 kR,.cl 0 1 tI,.dtc 0 2 kK,.dtc 0 3 kM],[(.ret,[.sl 4 false .bool,.opn 0 109 4,.dtc 0 0 kR,.cl 0 1 tI,.dtc 0 2 kK,.dtc 0 3 kM]),(.exit 0,[.dts 6 kE,.dts 7 (.row tI 3),.opn 0 109 4,.dtc 0 0 kR,.cl 0 1 tI,.dtc 0 2 kK,.dtc 0 3 kM])],0⟩,⟨3,7,[],[(.norm,[.sl 32 false .bool])],0⟩,⟨2,1,[.dts 6 kE,.dts 7 (.row tI 3),.opn 0 109 4,.dtc 0 0 kR,.cl 0 1 tI,.dtc 0 2 kK,.dtc 0 3 kM],[(.norm,[.dts 6 kE,.dts 7 (.row tI 3),.opn 0 109 4,.dtc 0 0 kR,.cl 0 1 tI,.dtc 0 2 kK,.dtc 0 3 kM]),(.ret,[.sl 4 false .bool,.opn 0 109 4,.dtc 0 0 kR,.cl 0 1 tI,.dtc 0 2 kK,.dtc 0 3 kM])],0⟩,⟨3,16,[],[(.norm,[.sl 100 false .bool])],0⟩,⟨1,119,[],[(.norm,[.sl 21 false tI])],0⟩,⟨3,23,[.opn 0 109 4,.dtc 0 0 kR,.cl 0 1 tI,.dtc 0 2 kK,.dtc 0 3 kM],[(.norm,[.sl 4 false .bool,.opn 0 109 4,.dtc 0 0 kR,.cl 0 1 tI,.dtc 0 2 kK,.dtc 0 3 kM])],0⟩] _ _ _ Tryz.func4 rfl (by kernel_rfl) (by kernel_rfl) (fun y=>by kernel_rfl)
noncomputable def purserlaw28_ReplayAny.h:Hnd Tryz.prog:={f:=4,h:=_,ok:=purserlaw28_ReplayAny.ok,ent:=ent Tryz.func4 (by kernel_rfl) rfl,v:=some (zdo _ _ _),vok:=by intro g h;obtain rfl:=Option.some.inj h;exact zag (by kernel_rfl) purserlaw28_ReplayAny.ok}
end Go.Proofs.YtniohchnpfpffaaGreat.Y
