/- The program's functions compute what the plain functions tell,whatever the input; no statement of its own. -/
import Derived.Test.YtniohchnpfpffaaGreatProg
import Derived.Test.YtniohchnpfpffaaGreatAmE
import Derived.Test.YtniohchnpfpffaaGreatZ1d
import Derived.Test.YtniohchnpfpffaaGreatSA
import Derived.Test.YtniohchnpfpffaaGreatLSort
import Derived.Test.YtniohchnpfpffaaGreatPh
import Derived.Test.YtniohchnpfpffaaGreatKh
import Derived.Test.YtniohchnpfpffaaGreatSx
import Derived.KernelRfl
set_option linter.unusedVariables false
namespace Go.Proofs.YtniohchnpfpffaaGreat.Y
open Go.Am Go.Vk
set_option maxRecDepth 100000
abbrev kB:DT:= .map ⟨3,97,false,tI,true,tV⟩
abbrev kK:DT:= .map ⟨40,3,true,tA,false,tI⟩
abbrev kR:DT:= .row (.pair (.pair tI (.slice (.pair tA tI))) tI) 112
abbrev kM:DT:= .rowD kK 106
abbrev kJ:DT:= .pair kR (.pair (.flat tI) (.pair kK kM))
abbrev kP:DT:= .ptr 109 kJ
abbrev kQ:DT:= .ptr 175 kB
abbrev tW:Ty:= .arr tV 33
abbrev kE:DT:= .row (.pair tI (.slice (.pair tI tA))) 52
abbrev tE:Ty:= .pair tI (.slice (.pair tA tI))
abbrev tF:Ty:= .pair tI (.slice (.pair tI tA))
theorem ent {f : FuncId} {fn : Func} {c : Code} (hf : Tryz.prog.funcs[f]? = some fn) (hn : (fn.name == "runtime.NumGoroutine") = false) (hb : fn.body = some c) : ∀ args w,(callFunc f args).run Tryz.prog w = .ok (.enter f args) w := Go.MuLone.run_callFunc_enter hf hn hb
section
variable [Dr]
theorem cmp_isNaN_int.ok:zaj Tryz.prog 110 (hdl [(false,tI)] [.sl 0 false .bool] (fun y=>cmp_isNaN_int.f y)):=
  zb2 [] [] _ _ _ Tryz.func110 rfl (by kernel_rfl) (by kernel_rfl) (fun y=>by kernel_rfl)
noncomputable def cmp_isNaN_int.h:Hnd Tryz.prog:={f:=110,h:=_,ok:=cmp_isNaN_int.ok,ent:=ent Tryz.func110 (by kernel_rfl) rfl,v:=some (zee _ _ _),vok:=by intro g h;obtain rfl:=Option.some.inj h;exact zai (by kernel_rfl) cmp_isNaN_int.ok,c:=true,cok:=by intro _ g h;obtain rfl:=Option.some.inj h;exact zbr (by kernel_rfl) (by kernel_rfl) cmp_isNaN_int.ok}

theorem cmp_Compare_int.ok:zaj Tryz.prog 53 (hdl [(false,tI),(false,tI)] [.sl 0 false tI] (fun y=>cmp_Compare_int.f y.1 y.2)):=
  zb2 [cmp_isNaN_int.h] [] _ _ _ Tryz.func53 rfl (by kernel_rfl) (by kernel_rfl) (fun y=>by kernel_rfl)
noncomputable def cmp_Compare_int.h:Hnd Tryz.prog:={f:=53,h:=_,ok:=cmp_Compare_int.ok,ent:=ent Tryz.func53 (by kernel_rfl) rfl,v:=some (zee _ _ _),vok:=by intro g h;obtain rfl:=Option.some.inj h;exact zai (by kernel_rfl) cmp_Compare_int.ok,c:=true,cok:=by intro _ g h;obtain rfl:=Option.some.inj h;exact zbr (by kernel_rfl) (by kernel_rfl) cmp_Compare_int.ok}

theorem cmp_Or_int.ok:zaj Tryz.prog 52 (hdl [(false,(.slice tI))] [.sl 0 false tI] (fun y=>cmp_Or_int.f y)):=
  zb2 [] [⟨0,3,[.sl 8 false tI],[(.ret,[.sl 2 false tI]),(.exit 0,[])],0⟩] _ _ _ Tryz.func52 rfl (by kernel_rfl) (by kernel_rfl) (fun y=>by kernel_rfl)
noncomputable def cmp_Or_int.h:Hnd Tryz.prog:={f:=52,h:=_,ok:=cmp_Or_int.ok,ent:=ent Tryz.func52 (by kernel_rfl) rfl,v:=some (zee _ _ _),vok:=by intro g h;obtain rfl:=Option.some.inj h;exact zai (by kernel_rfl) cmp_Or_int.ok}

noncomputable def entry_Account_order.h:Hnd Tryz.prog:={f:=66,h:=_,ok:=zgg [cmp_Or_int.h,cmp_Compare_int.h] [] 2 Tryz.func66 rfl,ent:=ent Tryz.func66 (by kernel_rfl) rfl}

theorem entry_Make_1.ok:zaj Tryz.prog 65 (hdl [(true,(.pair tA tI)),(true,(.pair tA tI))] [.sl 0 false tI] (fun y=>entry_Make_1.f y.1 y.2)):=
  zb2 [entry_Account_order.h] [] _ _ _ Tryz.func65 rfl (by kernel_rfl) (by kernel_rfl) (fun y=>by kernel_rfl)
noncomputable def entry_Make_1.h:Hnd Tryz.prog:={f:=65,h:=_,ok:=entry_Make_1.ok,ent:=ent Tryz.func65 (by kernel_rfl) rfl,v:=some (zee _ _ _),vok:=by intro g h;obtain rfl:=Option.some.inj h;exact zai (by kernel_rfl) entry_Make_1.ok,c:=true,cok:=by intro _ g h;obtain rfl:=Option.some.inj h;exact zbr (by kernel_rfl) (by kernel_rfl) entry_Make_1.ok}

theorem journal_Journal_Accounts_1.ok:zaj Tryz.prog 51 (hdl [(true,tA),(true,tA)] [.sl 0 false tI] (fun y=>journal_Journal_Accounts_1.f y.1 y.2)):=
  zb2 [cmp_Or_int.h,cmp_Compare_int.h] [] _ _ _ Tryz.func51 rfl (by kernel_rfl) (by kernel_rfl) (fun y=>by kernel_rfl)
noncomputable def journal_Journal_Accounts_1.h:Hnd Tryz.prog:={f:=51,h:=_,ok:=journal_Journal_Accounts_1.ok,ent:=ent Tryz.func51 (by kernel_rfl) rfl,v:=some (zee _ _ _),vok:=by intro g h;obtain rfl:=Option.some.inj h;exact zai (by kernel_rfl) journal_Journal_Accounts_1.ok,c:=true,cok:=by intro _ g h;obtain rfl:=Option.some.inj h;exact zbr (by kernel_rfl) (by kernel_rfl) journal_Journal_Accounts_1.ok}
end
instance :Dr:=⟨False⟩
noncomputable def sort64.h:Hnd Tryz.prog:={f:=64,h:=zms 65 (.pair tA tI) entry_Make_1.f,ok:=sort_ok (T:=(.pair tA tI)) (f:=entry_Make_1.f) sortL (by kernel_rfl) (@zai ⟨True⟩ _ _ _ _ _ (by kernel_rfl) (@entry_Make_1.ok ⟨True⟩)) (ent Tryz.func65 (by kernel_rfl) rfl) (by kernel_rfl) (by kernel_rfl),ent:=ent Tryz.func64 (by kernel_rfl) rfl}

theorem entry_kind.ok:zaj Tryz.prog 60 (hdl [(false,tI)] [.sl 0 false .bool] (fun y=>entry_kind.f y)):=
  zb2 [] [⟨3,1,[],[(.norm,[.sl 2 false .bool])],0⟩] _ _ _ Tryz.func60 rfl (by kernel_rfl) (by kernel_rfl) (fun y=>by kernel_rfl)
noncomputable def entry_kind.h:Hnd Tryz.prog:={f:=60,h:=_,ok:=entry_kind.ok,ent:=ent Tryz.func60 (by kernel_rfl) rfl,v:=some (zee _ _ _),vok:=by intro g h;obtain rfl:=Option.some.inj h;exact zai (by kernel_rfl) entry_kind.ok,c:=true,cok:=by intro _ g h;obtain rfl:=Option.some.inj h;exact zbr (by kernel_rfl) (by kernel_rfl) entry_kind.ok}

theorem entry_sides.ok:zaj Tryz.prog 62 (hdl [(false,tI)] [.sl 0 false tI,.sl 1 false tI] (fun y=>entry_sides.f y)):=
  zb2 [] [] _ _ _ Tryz.func62 rfl (by kernel_rfl) (by kernel_rfl) (fun y=>by kernel_rfl)
noncomputable def entry_sides.h:Hnd Tryz.prog:={f:=62,h:=_,ok:=entry_sides.ok,ent:=ent Tryz.func62 (by kernel_rfl) rfl,v:=some (zee _ _ _),vok:=by intro g h;obtain rfl:=Option.some.inj h;exact zai (by kernel_rfl) entry_sides.ok,c:=true,cok:=by intro _ g h;obtain rfl:=Option.some.inj h;exact zbr (by kernel_rfl) (by kernel_rfl) entry_sides.ok}

theorem entry_on.ok:zaj Tryz.prog 63 (hdl [(false,tI),(false,tI),(false,tI)] [.sl 0 true tA] (fun y=>entry_on.f y.1 y.2.1 y.2.2)):=
  zb2 [] [] _ _ _ Tryz.func63 rfl (by kernel_rfl) (by kernel_rfl) (fun y=>by kernel_rfl)
noncomputable def entry_on.h:Hnd Tryz.prog:={f:=63,h:=_,ok:=entry_on.ok,ent:=ent Tryz.func63 (by kernel_rfl) rfl,v:=some (zee _ _ _),vok:=by intro g h;obtain rfl:=Option.some.inj h;exact zai (by kernel_rfl) entry_on.ok,c:=true,cok:=by intro _ g h;obtain rfl:=Option.some.inj h;exact zbr (by kernel_rfl) (by kernel_rfl) entry_on.ok}

theorem entry_Account_right.ok:zaj Tryz.prog 145 (hdl [(true,tA)] [.sl 0 false .bool] (fun y=>entry_Account_right.f y)):=
  zb2 [] [⟨3,1,[],[(.norm,[.sl 3 false .bool])],0⟩,⟨3,4,[],[(.norm,[.sl 2 false .bool])],0⟩,⟨3,8,[],[(.norm,[.sl 2 false .bool])],0⟩,⟨3,10,[],[(.norm,[.sl 2 false .bool])],0⟩] _ _ _ Tryz.func145 rfl (by kernel_rfl) (by kernel_rfl) (fun y=>by kernel_rfl)
noncomputable def entry_Account_right.h:Hnd Tryz.prog:={f:=145,h:=_,ok:=entry_Account_right.ok,ent:=ent Tryz.func145 (by kernel_rfl) rfl,v:=some (zee _ _ _),vok:=by intro g h;obtain rfl:=Option.some.inj h;exact zai (by kernel_rfl) entry_Account_right.ok,c:=true,cok:=by intro _ g h;obtain rfl:=Option.some.inj h;exact zbr (by kernel_rfl) (by kernel_rfl) entry_Account_right.ok}

theorem entry_Entry_leg.ok:zaj Tryz.prog 104 (hdl [(true,tE),(false,tI)] [.sl 0 false tI] (fun y=>entry_Entry_leg.f y.1 y.2)):=
  zb2 [entry_Account_order.h,entry_Account_right.h] [⟨3,4,[],[(.norm,[.sl 16 false .bool])],0⟩,⟨3,6,[],[(.norm,[.sl 30 false .bool])],0⟩] _ _ _ Tryz.func104 rfl (by kernel_rfl) (by kernel_rfl) (fun y=>by kernel_rfl)
noncomputable def entry_Entry_leg.h:Hnd Tryz.prog:={f:=104,h:=_,ok:=entry_Entry_leg.ok,ent:=ent Tryz.func104 (by kernel_rfl) rfl,v:=some (zee _ _ _),vok:=by intro g h;obtain rfl:=Option.some.inj h;exact zai (by kernel_rfl) entry_Entry_leg.ok}

theorem entry_Check.ok:zaj Tryz.prog 46 (hdl [(true,tE)] [.sl 0 false tI] (fun y=>entry_Check.f y)):=
  zb2 [entry_kind.h,entry_Entry_leg.h] [⟨3,3,[],[(.norm,[.sl 12 false .bool])],0⟩,⟨0,7,[.sl 3 false tI,.sl 26 false tI],[(.ret,[.sl 2 false tI]),(.exit 1,[.sl 3 false tI])],0⟩] _ _ _ Tryz.func46 rfl (by kernel_rfl) (by kernel_rfl) (fun y=>by kernel_rfl)
noncomputable def entry_Check.h:Hnd Tryz.prog:={f:=46,h:=_,ok:=entry_Check.ok,ent:=ent Tryz.func46 (by kernel_rfl) rfl,v:=some (zee _ _ _),vok:=by intro g h;obtain rfl:=Option.some.inj h;exact zai (by kernel_rfl) entry_Check.ok}

theorem path.ok:zaj Tryz.prog 61 (hdl [(false,(.slice tI))] [.sl 0 false .bool] (fun y=>path.f y)):=Sv.path_ok (fun h=>h)
noncomputable def path.h:Hnd Tryz.prog:={f:=61,h:=_,ok:=path.ok,ent:=ent Tryz.func61 (by kernel_rfl) rfl,v:=some (zee _ _ _),vok:=by intro g h;obtain rfl:=Option.some.inj h;exact zai (by kernel_rfl) path.ok}

theorem entry_Make.ok:zaj Tryz.prog 26 (hdl [(false,tI),(false,tI),(false,(.slice tI)),(false,tI)] [.sl 0 true tE,.sl 1 false tI] (fun y=>entry_Make.f y.1 y.2.1 y.2.2.1 y.2.2.2)):=
  zb2 [entry_Check.h,entry_kind.h,path.h,entry_sides.h,entry_on.h,sort64.h] [⟨3,3,[],[(.norm,[.sl 21 false .bool])],0⟩,⟨1,42,[.opn 1 30 2,.cl 1 0 tI,.dtc 1 1 (.row (.pair tA tI) 59)],[(.norm,[.opn 1 30 2,.cl 1 0 tI,.dtc 1 1 (.row (.pair tA tI) 59)])],0⟩,⟨0,10,[.sl 56 false tI,.opn 1 30 2,.cl 1 0 tI,.dtc 1 1 (.row (.pair tA tI) 59)],[(.exit 1,[.opn 1 30 2,.cl 1 0 tI,.dtc 1 1 (.row (.pair tA tI) 59)])],0⟩,⟨1,61,[.opn 1 30 2,.cl 1 0 tI,.dtc 1 1 (.row (.pair tA tI) 59)],[(.norm,[.opn 1 30 2,.cl 1 0 tI,.dtc 1 1 (.row (.pair tA tI) 59)])],0⟩] _ _ _ Tryz.func26 rfl (by kernel_rfl) (by kernel_rfl) (fun y=>by kernel_rfl)
noncomputable def entry_Make.h:Hnd Tryz.prog:={f:=26,h:=_,ok:=entry_Make.ok,ent:=ent Tryz.func26 (by kernel_rfl) rfl,v:=some (zee _ _ _),vok:=by intro g h;obtain rfl:=Option.some.inj h;exact zai (by kernel_rfl) entry_Make.ok}

theorem slices_Clone_entry_Leg.ok:zaj Tryz.prog 105 (hdl [(false,(.slice (.pair tA tI)))] [.dts 0 (.row (.pair tA tI) 59)] (fun y=>slices_Clone_entry_Leg.f y)):=
  zb2 [] [] _ _ _ Tryz.func105 rfl (by kernel_rfl) (by kernel_rfl) (fun y=>by kernel_rfl)
noncomputable def slices_Clone_entry_Leg.h:Hnd Tryz.prog:={f:=105,h:=_,ok:=slices_Clone_entry_Leg.ok,ent:=ent Tryz.func105 (by kernel_rfl) rfl}

theorem journal_copied.ok:zaj Tryz.prog 47 (hdl [(true,tE)] [.sl 0 true tE] (fun y=>journal_copied.f y)):=
  zb2 [slices_Clone_entry_Leg.h] [] _ _ _ Tryz.func47 rfl (by kernel_rfl) (by kernel_rfl) (fun y=>by kernel_rfl)
noncomputable def journal_copied.h:Hnd Tryz.prog:={f:=47,h:=_,ok:=journal_copied.ok,ent:=ent Tryz.func47 (by kernel_rfl) rfl,v:=some (zee _ _ _),vok:=by intro g h;obtain rfl:=Option.some.inj h;exact zai (by kernel_rfl) journal_copied.ok}

theorem arith_Sum.ok:zaj Tryz.prog 48 (hdl [(false,(.slice tI))] [.sl 0 false tI,.sl 1 false .bool] (fun y=>arith_Sum.f y)):=
  zb2 [] [⟨0,3,[.sl 4 false (.int .u64),.sl 5 false (.int .u64),.sl 11 false tI],[(.exit 0,[.sl 4 false (.int .u64),.sl 5 false (.int .u64)])],0⟩] _ _ _ Tryz.func48 rfl (by kernel_rfl) (by kernel_rfl) (fun y=>by kernel_rfl)
noncomputable def arith_Sum.h:Hnd Tryz.prog:={f:=48,h:=_,ok:=arith_Sum.ok,ent:=ent Tryz.func48 (by kernel_rfl) rfl,v:=some (zee _ _ _),vok:=by intro g h;obtain rfl:=Option.some.inj h;exact zai (by kernel_rfl) arith_Sum.ok}

theorem journal_New.ok:zaj Tryz.prog 20 (hdl [] [.dts 0 kP] (fun y=>journal_New.f)):=
  zb2 [] [] _ _ _ Tryz.func20 rfl (by kernel_rfl) (by kernel_rfl) (fun y=>by kernel_rfl)
noncomputable def journal_New.h:Hnd Tryz.prog:={f:=20,h:=_,ok:=journal_New.ok,ent:=ent Tryz.func20 (by kernel_rfl) rfl}

theorem journal_Journal_Post.ok:zaj Tryz.prog 10 (zqx 109 kJ [(true,tE)] [(false,(.flat tI)),(false,(.flat tI))] (fun s y=>journal_Journal_Post.f s y)):=
  zci [entry_Check.h,journal_copied.h] [⟨0,9,[.sl 28 false tI],[(.ret,[.sl 4 false tI,.sl 5 false tI]),(.exit 0,[])],0⟩,⟨3,12,[],[(.norm,[.sl 47 false .bool])],0⟩,⟨0,16,[.sl 52 false tI,.mp 2 ⟨40,3,true,tA,false,tI⟩,.rwD 3 kK 106],[(.exit 2,[.mp 2 ⟨40,3,true,tA,false,tI⟩,.rwD 3 kK 106])],0⟩] _ _ _ _ _ Tryz.func10 rfl (fun s y=>by kernel_rfl)
noncomputable def journal_Journal_Post.h:Hnd Tryz.prog:={f:=10,h:=_,ok:=zgu (p:=zya) (zg1 [entry_Check.h,journal_copied.h] [] 2 Tryz.func10 rfl) journal_Journal_Post.ok,ent:=ent Tryz.func10 (by kernel_rfl) rfl}

theorem journal_Journal_Close.ok:zaj Tryz.prog 11 (zqx 109 kJ [] [(false,(.flat tI)),(false,(.flat tI))] (fun s y=>journal_Journal_Close.f s)):=
  zci [] [] _ _ _ _ _ Tryz.func11 rfl (fun s y=>by kernel_rfl)
noncomputable def journal_Journal_Close.h:Hnd Tryz.prog:={f:=11,h:=_,ok:=zgu (p:=zya) (zg1 [] [] 1 Tryz.func11 rfl) journal_Journal_Close.ok,ent:=ent Tryz.func11 (by kernel_rfl) rfl}

noncomputable def journal_copied_2.h:Hnd Tryz.prog:={f:=47,h:=_,ok:=zgg [slices_Clone_entry_Leg.h] [] 1 Tryz.func47 rfl,ent:=ent Tryz.func47 (by kernel_rfl) rfl}

theorem journal_Journal_At.ok:zaj Tryz.prog 12 (zqx 109 kJ [(false,tI)] [(true,(.pair (.flat tI) (.row (.pair tA tI) 59))),(false,(.flat tI)),(false,(.flat tI))] (fun s y=>journal_Journal_At.f s y)):=
  zci [journal_copied_2.h] [⟨3,3,[],[(.norm,[.sl 11 false .bool])],0⟩] _ _ _ _ _ Tryz.func12 rfl (fun s y=>by kernel_rfl)
noncomputable def journal_Journal_At.h:Hnd Tryz.prog:={f:=12,h:=_,ok:=zgu (p:=zya) (zg1 [journal_copied_2.h] [] 2 Tryz.func12 rfl) journal_Journal_At.ok,ent:=ent Tryz.func12 (by kernel_rfl) rfl}

theorem journal_Journal_Trial.ok:zaj Tryz.prog 13 (zqx 109 kJ [(false,tI)] [(false,(.flat tI)),(false,(.flat tI)),(false,(.flat tI))] (fun s y=>journal_Journal_Trial.f s y)):=
  zci [arith_Sum.h] [⟨3,3,[],[(.norm,[.sl 20 false .bool])],0⟩,⟨0,7,[.dts 7 (.row tI 3),.dts 8 (.row tI 3),.sl 36 false tI],[(.exit 1,[.dts 7 (.row tI 3),.dts 8 (.row tI 3)])],0⟩,⟨2,2,[.dts 7 (.row tI 3),.dts 8 (.row tI 3)],[(.norm,[.dts 7 (.row tI 3),.dts 8 (.row tI 3)])],0⟩,⟨3,9,[],[(.norm,[.sl 47 false .bool])],0⟩,⟨0,11,[.dts 7 (.row tI 3),.dts 8 (.row tI 3),.sl 52 false tI],[(.exit 3,[.dts 7 (.row tI 3),.dts 8 (.row tI 3)])],0⟩,⟨3,18,[],[(.norm,[.sl 86 false .bool])],0⟩] _ _ _ _ _ Tryz.func13 rfl (fun s y=>by kernel_rfl)
noncomputable def journal_Journal_Trial.h:Hnd Tryz.prog:={f:=13,h:=_,ok:=zgu (p:=zya) (zg1 [arith_Sum.h] [] 2 Tryz.func13 rfl) journal_Journal_Trial.ok,ent:=ent Tryz.func13 (by kernel_rfl) rfl}

theorem journal_Journal_Period.ok:zaj Tryz.prog 15 (zqx 109 kJ [] [(false,(.flat tI))] (fun s y=>journal_Journal_Period.f s)):=
  zci [] [] _ _ _ _ _ Tryz.func15 rfl (fun s y=>by kernel_rfl)
noncomputable def journal_Journal_Period.h:Hnd Tryz.prog:={f:=15,h:=_,ok:=zgu (p:=zya) (zg1 [] [] 1 Tryz.func15 rfl) journal_Journal_Period.ok,ent:=ent Tryz.func15 (by kernel_rfl) rfl}

theorem journal_Journal_Len.ok:zaj Tryz.prog 16 (zqx 109 kJ [] [(false,(.flat tI))] (fun s y=>journal_Journal_Len.f s)):=
  zci [] [] _ _ _ _ _ Tryz.func16 rfl (fun s y=>by kernel_rfl)
noncomputable def journal_Journal_Len.h:Hnd Tryz.prog:={f:=16,h:=_,ok:=zgu (p:=zya) (zg1 [] [] 1 Tryz.func16 rfl) journal_Journal_Len.ok,ent:=ent Tryz.func16 (by kernel_rfl) rfl}

theorem journal_Journal_Balance.ok:zaj Tryz.prog 17 (zqx 109 kJ [(true,tA)] [(false,(.flat tI))] (fun s y=>journal_Journal_Balance.f s y)):=
  zci [] [] _ _ _ _ _ Tryz.func17 rfl (fun s y=>by kernel_rfl)
noncomputable def journal_Journal_Balance.h:Hnd Tryz.prog:={f:=17,h:=_,ok:=zgu (p:=zya) (zg1 [] [] 2 Tryz.func17 rfl) journal_Journal_Balance.ok,ent:=ent Tryz.func17 (by kernel_rfl) rfl}

theorem journal_Journal_Moved.ok:zaj Tryz.prog 18 (zqx 109 kJ [(true,tA),(false,tI)] [(false,(.flat tI))] (fun s y=>journal_Journal_Moved.f s y.1 y.2)):=
  zci [] [⟨3,1,[],[(.norm,[.sl 21 false .bool])],0⟩] _ _ _ _ _ Tryz.func18 rfl (fun s y=>by kernel_rfl)
noncomputable def journal_Journal_Moved.h:Hnd Tryz.prog:={f:=18,h:=_,ok:=zgu (p:=zya) (zg1 [] [] 3 Tryz.func18 rfl) journal_Journal_Moved.ok,ent:=ent Tryz.func18 (by kernel_rfl) rfl}

noncomputable def keys107.h:Hnd Tryz.prog:={f:=107,h:=Kv109.keysHdl,ok:=Kv109.keys_ok (fun h=>h),ent:=ent Tryz.func107 (by kernel_rfl) rfl}

noncomputable def sort108.h:Hnd Tryz.prog:={f:=108,h:=zms 51 tA journal_Journal_Accounts_1.f,ok:=sort_ok (T:=tA) (f:=journal_Journal_Accounts_1.f) sortR (by kernel_rfl) (@zai ⟨True⟩ _ _ _ _ _ (by kernel_rfl) (@journal_Journal_Accounts_1.ok ⟨True⟩)) (ent Tryz.func51 (by kernel_rfl) rfl) (by kernel_rfl) (by kernel_rfl),ent:=ent Tryz.func108 (by kernel_rfl) rfl}

noncomputable def slices_SortedFunc_entry_Account.h:Hnd Tryz.prog:={f:=49,h:=_,ok:=zgg [keys107.h,sort108.h] [] 2 Tryz.func49 rfl,ent:=ent Tryz.func49 (by kernel_rfl) rfl}

noncomputable def maps_Keys_entry_Account_int.h:Hnd Tryz.prog:={f:=50,h:=_,ok:=zgg [] [] 1 Tryz.func50 rfl,ent:=ent Tryz.func50 (by kernel_rfl) rfl}

theorem journal_Journal_Accounts.ok:zaj Tryz.prog 19 (zqx 109 kJ [] [(false,(.row tA 40))] (fun s y=>journal_Journal_Accounts.f s)):=
  zci [slices_SortedFunc_entry_Account.h,maps_Keys_entry_Account_int.h] [] _ _ _ _ _ Tryz.func19 rfl (fun s y=>by kernel_rfl)
noncomputable def journal_Journal_Accounts.h:Hnd Tryz.prog:={f:=19,h:=_,ok:=zgu (p:=zya) (zg1 [slices_SortedFunc_entry_Account.h,maps_Keys_entry_Account_int.h] [] 1 Tryz.func19 rfl) journal_Journal_Accounts.ok,ent:=ent Tryz.func19 (by kernel_rfl) rfl}

theorem purserref08_same.ok:zaj Tryz.prog 112 (hdl [(true,(.pair tI tA)),(true,(.pair tI tA))] [.sl 0 false .bool] (fun y=>purserref08_same.f y.1 y.2)):=
  zb2 [] [⟨3,1,[],[(.norm,[.sl 4 false .bool])],0⟩] _ _ _ Tryz.func112 rfl (by kernel_rfl) (by kernel_rfl) (fun y=>by kernel_rfl)
noncomputable def purserref08_same.h:Hnd Tryz.prog:={f:=112,h:=_,ok:=purserref08_same.ok,ent:=ent Tryz.func112 (by kernel_rfl) rfl,v:=some (zee _ _ _),vok:=by intro g h;obtain rfl:=Option.some.inj h;exact zai (by kernel_rfl) purserref08_same.ok,c:=true,cok:=by intro _ g h;obtain rfl:=Option.some.inj h;exact zbr (by kernel_rfl) (by kernel_rfl) purserref08_same.ok}

theorem purserref07_account.ok:zaj Tryz.prog 111 (hdl [(true,(.pair tI tA))] [.sl 0 false .bool] (fun y=>purserref07_account.f y)):=
  zb2 [] [⟨3,1,[],[(.norm,[.sl 3 false .bool])],0⟩,⟨3,4,[],[(.norm,[.sl 2 false .bool])],0⟩,⟨3,8,[],[(.norm,[.sl 2 false .bool])],0⟩,⟨3,10,[],[(.norm,[.sl 2 false .bool])],0⟩] _ _ _ Tryz.func111 rfl (by kernel_rfl) (by kernel_rfl) (fun y=>by kernel_rfl)
noncomputable def purserref07_account.h:Hnd Tryz.prog:={f:=111,h:=_,ok:=purserref07_account.ok,ent:=ent Tryz.func111 (by kernel_rfl) rfl,v:=some (zee _ _ _),vok:=by intro g h;obtain rfl:=Option.some.inj h;exact zai (by kernel_rfl) purserref07_account.ok,c:=true,cok:=by intro _ g h;obtain rfl:=Option.some.inj h;exact zbr (by kernel_rfl) (by kernel_rfl) purserref07_account.ok}

theorem purserref07_rises.ok:zaj Tryz.prog 67 (hdl [(true,(.pair tI tA)),(true,(.pair tI tA))] [.sl 0 false .bool] (fun y=>purserref07_rises.f y.1 y.2)):=
  zb2 [] [] _ _ _ Tryz.func67 rfl (by kernel_rfl) (by kernel_rfl) (fun y=>by kernel_rfl)
noncomputable def purserref07_rises.h:Hnd Tryz.prog:={f:=67,h:=_,ok:=purserref07_rises.ok,ent:=ent Tryz.func67 (by kernel_rfl) rfl,v:=some (zee _ _ _),vok:=by intro g h;obtain rfl:=Option.some.inj h;exact zai (by kernel_rfl) purserref07_rises.ok,c:=true,cok:=by intro _ g h;obtain rfl:=Option.some.inj h;exact zbr (by kernel_rfl) (by kernel_rfl) purserref07_rises.ok}

theorem purserref07_Check.ok:zaj Tryz.prog 54 (hdl [(true,tF)] [.sl 0 false tI] (fun y=>purserref07_Check.f y)):=
  zb2 [purserref07_rises.h,purserref07_account.h] [⟨3,1,[],[(.norm,[.sl 13 false .bool])],0⟩,⟨3,3,[],[(.norm,[.sl 23 false .bool])],0⟩,⟨0,7,[.sl 3 false tI,.sl 4 false tI],[(.ret,[.sl 2 false tI]),(.exit 0,[.sl 3 false tI])],0⟩,⟨3,12,[],[(.norm,[.sl 51 false .bool])],0⟩,⟨3,14,[],[(.norm,[.sl 64 false .bool])],0⟩] _ _ _ Tryz.func54 rfl (by kernel_rfl) (by kernel_rfl) (fun y=>by kernel_rfl)
noncomputable def purserref07_Check.h:Hnd Tryz.prog:={f:=54,h:=_,ok:=purserref07_Check.ok,ent:=ent Tryz.func54 (by kernel_rfl) rfl,v:=some (zee _ _ _),vok:=by intro g h;obtain rfl:=Option.some.inj h;exact zai (by kernel_rfl) purserref07_Check.ok}

theorem purserref07_Make.ok:zaj Tryz.prog 27 (hdl [(false,tI),(false,tI),(false,(.slice tI)),(false,tI)] [.sl 0 true tF,.sl 1 false tI] (fun y=>purserref07_Make.f y.1 y.2.1 y.2.2.1 y.2.2.2)):=
  zb2 [purserref07_Check.h,purserref07_rises.h] [⟨3,1,[],[(.norm,[.sl 26 false .bool])],0⟩,⟨3,3,[],[(.norm,[.sl 10 false .bool])],0⟩,⟨0,5,[.sl 10 false .bool,.sl 11 false tI],[(.exit 0,[.sl 10 false .bool])],0⟩,⟨3,5,[],[(.norm,[.sl 51 false .bool])],0⟩,⟨0,8,[.sl 10 false .bool,.sl 12 false tI],[(.exit 2,[.sl 10 false .bool])],0⟩,⟨3,10,[],[(.norm,[.sl 10 false .bool])],0⟩,⟨1,82,[.opn 1 52 2,.cl 1 0 tI,.dtc 1 1 (.row (.pair tI tA) 61)],[(.norm,[.opn 1 52 2,.cl 1 0 tI,.dtc 1 1 (.row (.pair tI tA) 61)])],0⟩,⟨0,19,[.sl 16 false tI,.opn 1 52 2,.cl 1 0 tI,.dtc 1 1 (.row (.pair tI tA) 61)],[(.exit 4,[.opn 1 52 2,.cl 1 0 tI,.dtc 1 1 (.row (.pair tI tA) 61)])],0⟩,⟨0,22,[.sl 17 false tI,.opn 1 52 2,.cl 1 0 tI,.dtc 1 1 (.row (.pair tI tA) 61)],[(.exit 6,[.opn 1 52 2,.cl 1 0 tI,.dtc 1 1 (.row (.pair tI tA) 61)])],0⟩,⟨2,7,[.opn 1 52 2,.cl 1 0 tI,.dtc 1 1 (.row (.pair tI tA) 61)],[(.norm,[.opn 1 52 2,.cl 1 0 tI,.dtc 1 1 (.row (.pair tI tA) 61)])],0⟩,⟨1,111,[.dtb 5 61 (.flat (.pair tI tA))],[(.norm,[.dtb 5 61 (.flat (.pair tI tA))])],0⟩,⟨1,119,[.dtb 5 61 (.flat (.pair tI tA))],[(.norm,[.dtb 5 61 (.flat (.pair tI tA))])],0⟩,⟨0,32,[.sl 19 false tI,.rw 7 (.pair tI tA) 61],[(.exit 8,[.rw 7 (.pair tI tA) 61])],0⟩,⟨3,32,[],[(.norm,[.sl 145 false .bool])],0⟩] _ _ _ Tryz.func27 rfl (by kernel_rfl) (by kernel_rfl) (fun y=>by kernel_rfl)
noncomputable def purserref07_Make.h:Hnd Tryz.prog:={f:=27,h:=_,ok:=purserref07_Make.ok,ent:=ent Tryz.func27 (by kernel_rfl) rfl,v:=some (zee _ _ _),vok:=by intro g h;obtain rfl:=Option.some.inj h;exact zai (by kernel_rfl) purserref07_Make.ok}

theorem purserlaw08_journals.ok:zaj Tryz.prog 14 (hdl [] [.sl 0 false .bool] (fun y=>purserlaw08_journals.f)):=
  zb2 [journal_Journal_Post.h,journal_Journal_Trial.h,journal_Journal_Balance.h,journal_New.h,entry_Make.h] [⟨3,5,[.opn 0 109 4,.dtc 0 0 kR,.cl 0 1 tI,.dtc 0 2 kK,.dtc 0 3 kM],[(.norm,[.sl 0 false .bool,.opn 0 109 4,.dtc 0 0 kR,.cl 0 1 tI,.dtc 0 2 kK,.dtc 0 3 kM])],0⟩] _ _ _ Tryz.func14 rfl (by kernel_rfl) (by kernel_rfl) (fun y=>by kernel_rfl)
noncomputable def purserlaw08_journals.h:Hnd Tryz.prog:={f:=14,h:=_,ok:=purserlaw08_journals.ok,ent:=ent Tryz.func14 (by kernel_rfl) rfl,v:=some (zee _ _ _),vok:=by intro g h;obtain rfl:=Option.some.inj h;exact zai (by kernel_rfl) purserlaw08_journals.ok,c:=true,cok:=by intro _ g h;obtain rfl:=Option.some.inj h;exact zbr (by kernel_rfl) (by kernel_rfl) purserlaw08_journals.ok}

theorem purserref08_Journal_DocClose.ok:zaj Tryz.prog 21 (zqx 48 (.pair kE (.pair (.row tI 3) (.flat tI))) [] [(false,(.flat tI)),(false,(.flat tI))] (fun s y=>purserref08_Journal_DocClose.f s)):=
  zci [] [] _ _ _ _ _ Tryz.func21 rfl (fun s y=>by kernel_rfl)
noncomputable def purserref08_Journal_DocClose.h:Hnd Tryz.prog:={f:=21,h:=_,ok:=purserref08_Journal_DocClose.ok,ent:=ent Tryz.func21 (by kernel_rfl) rfl}

theorem purserref01_add.ok:zaj Tryz.prog 181 (hdl [(true,(.pair (.arr (.int .u64) 10) .bool)),(true,(.pair (.arr (.int .u64) 10) .bool))] [.sl 0 true (.pair (.arr (.int .u64) 10) .bool)] (fun y=>purserref01_add.f y.1 y.2)):=
  zb2 [] [⟨3,5,[],[(.norm,[.sl 7 false (.int .u64)])],0⟩,⟨0,3,[],[],11⟩] _ _ _ Tryz.func181 rfl (by kernel_rfl) (by kernel_rfl) (fun y=>by kernel_rfl)
noncomputable def purserref01_add.h:Hnd Tryz.prog:={f:=181,h:=_,ok:=purserref01_add.ok,ent:=ent Tryz.func181 (by kernel_rfl) rfl,v:=some (zee _ _ _),vok:=by intro g h;obtain rfl:=Option.some.inj h;exact zai (by kernel_rfl) purserref01_add.ok}

theorem purserref01_less.ok:zaj Tryz.prog 182 (hdl [(true,(.pair (.arr (.int .u64) 10) .bool)),(true,(.pair (.arr (.int .u64) 10) .bool))] [.sl 0 false .bool] (fun y=>purserref01_less.f y.1 y.2)):=
  zb2 [] [⟨0,2,[],[],11⟩] _ _ _ Tryz.func182 rfl (by kernel_rfl) (by kernel_rfl) (fun y=>by kernel_rfl)
noncomputable def purserref01_less.h:Hnd Tryz.prog:={f:=182,h:=_,ok:=purserref01_less.ok,ent:=ent Tryz.func182 (by kernel_rfl) rfl,v:=some (zee _ _ _),vok:=by intro g h;obtain rfl:=Option.some.inj h;exact zai (by kernel_rfl) purserref01_less.ok}

theorem purserref01_sub.ok:zaj Tryz.prog 183 (hdl [(true,(.pair (.arr (.int .u64) 10) .bool)),(true,(.pair (.arr (.int .u64) 10) .bool))] [.sl 0 true (.pair (.arr (.int .u64) 10) .bool)] (fun y=>purserref01_sub.f y.1 y.2)):=
  zb2 [] [⟨3,5,[],[(.norm,[.sl 7 false (.int .u64)])],0⟩,⟨3,7,[],[(.norm,[.sl 5 false (.int .u64)])],0⟩,⟨0,3,[],[],11⟩] _ _ _ Tryz.func183 rfl (by kernel_rfl) (by kernel_rfl) (fun y=>by kernel_rfl)
noncomputable def purserref01_sub.h:Hnd Tryz.prog:={f:=183,h:=_,ok:=purserref01_sub.ok,ent:=ent Tryz.func183 (by kernel_rfl) rfl,v:=some (zee _ _ _),vok:=by intro g h;obtain rfl:=Option.some.inj h;exact zai (by kernel_rfl) purserref01_sub.ok}

theorem purserref01_zero.ok:zaj Tryz.prog 184 (hdl [(true,(.pair (.arr (.int .u64) 10) .bool))] [.sl 0 false .bool] (fun y=>purserref01_zero.f y)):=
  zb2 [] [] _ _ _ Tryz.func184 rfl (by kernel_rfl) (by kernel_rfl) (fun y=>by kernel_rfl)
noncomputable def purserref01_zero.h:Hnd Tryz.prog:={f:=184,h:=_,ok:=purserref01_zero.ok,ent:=ent Tryz.func184 (by kernel_rfl) rfl,v:=some (zee _ _ _),vok:=by intro g h;obtain rfl:=Option.some.inj h;exact zai (by kernel_rfl) purserref01_zero.ok}

theorem purserref01_Plus.ok:zaj Tryz.prog 148 (hdl [(true,(.pair (.arr (.int .u64) 10) .bool)),(true,(.pair (.arr (.int .u64) 10) .bool))] [.sl 0 true (.pair (.arr (.int .u64) 10) .bool)] (fun y=>purserref01_Plus.f y.1 y.2)):=
  zb2 [purserref01_add.h,purserref01_less.h,purserref01_sub.h,purserref01_zero.h] [⟨1,16,[.dtb 0 191 (.flat (.pair (.arr (.int .u64) 10) .bool)),.dtb 1 191 (.flat (.pair (.arr (.int .u64) 10) .bool))],[(.norm,[.dtb 0 191 (.flat (.pair (.arr (.int .u64) 10) .bool)),.dtb 1 191 (.flat (.pair (.arr (.int .u64) 10) .bool))])],0⟩,⟨1,23,[.dtb 3 191 (.flat (.pair (.arr (.int .u64) 10) .bool))],[(.norm,[.dtb 3 191 (.flat (.pair (.arr (.int .u64) 10) .bool))])],0⟩] _ _ _ Tryz.func148 rfl (by kernel_rfl) (by kernel_rfl) (fun y=>by kernel_rfl)
noncomputable def purserref01_Plus.h:Hnd Tryz.prog:={f:=148,h:=_,ok:=purserref01_Plus.ok,ent:=ent Tryz.func148 (by kernel_rfl) rfl,v:=some (zee _ _ _),vok:=by intro g h;obtain rfl:=Option.some.inj h;exact zai (by kernel_rfl) purserref01_Plus.ok}

theorem purserref01_Of.ok:zaj Tryz.prog 149 (hdl [(false,tI)] [.sl 0 true (.pair (.arr (.int .u64) 10) .bool)] (fun y=>purserref01_Of.f y)):=
  zb2 [] [⟨1,8,[.dtb 1 191 (.flat (.pair (.arr (.int .u64) 10) .bool))],[(.norm,[.sl 4 false (.int .u64),.dtb 1 191 (.flat (.pair (.arr (.int .u64) 10) .bool))])],0⟩] _ _ _ Tryz.func149 rfl (by kernel_rfl) (by kernel_rfl) (fun y=>by kernel_rfl)
noncomputable def purserref01_Of.h:Hnd Tryz.prog:={f:=149,h:=_,ok:=purserref01_Of.ok,ent:=ent Tryz.func149 (by kernel_rfl) rfl,v:=some (zee _ _ _),vok:=by intro g h;obtain rfl:=Option.some.inj h;exact zai (by kernel_rfl) purserref01_Of.ok,c:=true,cok:=by intro _ g h;obtain rfl:=Option.some.inj h;exact zbr (by kernel_rfl) (by kernel_rfl) purserref01_Of.ok}

theorem purserref01_Int.ok:zaj Tryz.prog 150 (hdl [(true,(.pair (.arr (.int .u64) 10) .bool))] [.sl 0 false tI,.sl 1 false .bool] (fun y=>purserref01_Int.f y)):=
  zb2 [] [⟨3,6,[],[(.norm,[.sl 5 false (.int .u64)])],0⟩,⟨3,10,[],[(.norm,[.sl 2 false tI,.sl 3 false .bool])],0⟩,⟨0,2,[],[],9⟩] _ _ _ Tryz.func150 rfl (by kernel_rfl) (by kernel_rfl) (fun y=>by kernel_rfl)
noncomputable def purserref01_Int.h:Hnd Tryz.prog:={f:=150,h:=_,ok:=purserref01_Int.ok,ent:=ent Tryz.func150 (by kernel_rfl) rfl,v:=some (zee _ _ _),vok:=by intro g h;obtain rfl:=Option.some.inj h;exact zai (by kernel_rfl) purserref01_Int.ok}

theorem purserref01_Sum.ok:zaj Tryz.prog 113 (hdl [(false,(.slice tI))] [.sl 0 false tI,.sl 1 false .bool] (fun y=>purserref01_Sum.f y)):=
  zb2 [purserref01_Plus.h,purserref01_Of.h,purserref01_Int.h] [⟨0,3,[.sl 5 false tI,.dtb 0 191 (.flat (.pair (.arr (.int .u64) 10) .bool))],[(.exit 0,[.dtb 0 191 (.flat (.pair (.arr (.int .u64) 10) .bool))])],0⟩] _ _ _ Tryz.func113 rfl (by kernel_rfl) (by kernel_rfl) (fun y=>by kernel_rfl)
noncomputable def purserref01_Sum.h:Hnd Tryz.prog:={f:=113,h:=_,ok:=purserref01_Sum.ok,ent:=ent Tryz.func113 (by kernel_rfl) rfl,v:=some (zee _ _ _),vok:=by intro g h;obtain rfl:=Option.some.inj h;exact zai (by kernel_rfl) purserref01_Sum.ok}

theorem purserref08_Journal_Moved.ok:zaj Tryz.prog 55 (zqx 48 (.pair kE (.pair (.row tI 3) (.flat tI))) [(true,(.pair tI tA)),(false,tI)] [(false,(.flat tI))] (fun s y=>purserref08_Journal_Moved.f s y.1 y.2)):=
  zci [purserref08_same.h] [⟨0,3,[.sl 7 false tI,.sl 8 false tI],[(.exit 0,[.sl 7 false tI])],0⟩,⟨2,1,[],[(.norm,[.sl 7 false tI])],0⟩,⟨3,5,[],[(.norm,[.sl 31 false .bool])],0⟩,⟨0,7,[.sl 7 false tI,.sl 9 false tI],[(.exit 2,[.sl 7 false tI])],0⟩,⟨1,57,[],[(.norm,[.sl 7 false tI])],0⟩] _ _ _ _ _ Tryz.func55 rfl (fun s y=>by kernel_rfl)
noncomputable def purserref08_Journal_Moved.h:Hnd Tryz.prog:={f:=55,h:=_,ok:=purserref08_Journal_Moved.ok,ent:=ent Tryz.func55 (by kernel_rfl) rfl}

theorem purserref08_Journal_DocTrial.ok:zaj Tryz.prog 56 (zqx 48 (.pair kE (.pair (.row tI 3) (.flat tI))) [(false,tI)] [(false,(.flat tI)),(false,(.flat tI)),(false,(.flat tI))] (fun s y=>purserref08_Journal_DocTrial.f s y)):=
  zci [purserref01_Sum.h] [⟨3,1,[],[(.norm,[.sl 25 false .bool])],0⟩,⟨0,5,[.dts 7 (.row tI 3),.dts 8 (.row tI 3),.sl 9 false tI],[(.exit 0,[.dts 7 (.row tI 3),.dts 8 (.row tI 3)])],0⟩,⟨2,1,[.dts 7 (.row tI 3),.dts 8 (.row tI 3)],[(.norm,[.dts 7 (.row tI 3),.dts 8 (.row tI 3)])],0⟩,⟨3,7,[],[(.norm,[.sl 47 false .bool])],0⟩,⟨0,9,[.dts 7 (.row tI 3),.dts 8 (.row tI 3),.sl 10 false tI],[(.exit 2,[.dts 7 (.row tI 3),.dts 8 (.row tI 3)])],0⟩,⟨3,15,[],[(.norm,[.sl 99 false .bool])],0⟩] _ _ _ _ _ Tryz.func56 rfl (fun s y=>by kernel_rfl)
noncomputable def purserref08_Journal_DocTrial.h:Hnd Tryz.prog:={f:=56,h:=_,ok:=purserref08_Journal_DocTrial.ok,ent:=ent Tryz.func56 (by kernel_rfl) rfl}

theorem purserref08_Journal_Accounts.ok:zaj Tryz.prog 57 (zqx 48 (.pair kE (.pair (.row tI 3) (.flat tI))) [] [(false,(.row (.pair tI tA) 61))] (fun s y=>purserref08_Journal_Accounts.f s)):=
  zci [purserref08_same.h] [⟨0,3,[.dts 3 (.row (.pair tI tA) 61),.sl 4 false tI],[(.exit 0,[.dts 3 (.row (.pair tI tA) 61)])],0⟩,⟨0,6,[.dts 3 (.row (.pair tI tA) 61),.sl 5 false tI],[(.exit 2,[.dts 3 (.row (.pair tI tA) 61)])],0⟩,⟨0,9,[.dts 3 (.row (.pair tI tA) 61),.sl 6 false tI],[(.exit 4,[.dts 3 (.row (.pair tI tA) 61)])],0⟩,⟨0,14,[.sl 8 false .bool,.sl 9 false tI],[(.exit 6,[.sl 8 false .bool])],0⟩,⟨3,14,[],[(.norm,[.sl 37 false .bool])],0⟩,⟨0,17,[.sl 8 false .bool,.sl 10 false tI],[(.exit 8,[.sl 8 false .bool])],0⟩,⟨3,19,[],[(.norm,[.sl 8 false .bool])],0⟩,⟨1,69,[.dts 3 (.row (.pair tI tA) 61)],[(.norm,[.dts 3 (.row (.pair tI tA) 61)])],0⟩] _ _ _ _ _ Tryz.func57 rfl (fun s y=>by kernel_rfl)
noncomputable def purserref08_Journal_Accounts.h:Hnd Tryz.prog:={f:=57,h:=_,ok:=purserref08_Journal_Accounts.ok,ent:=ent Tryz.func57 (by kernel_rfl) rfl}

theorem purserlaw08_like.ok:zaj Tryz.prog 24 (hdlQ [.ptr 109 kJ,.ptr 48 (.pair kE (.pair (.row tI 3) (.flat tI))),.val false tI] [(false,(.flat .bool))] (fun s y=>purserlaw08_like.f s.1 s.2.1 y)):=
  hdlQ_ok [journal_Journal_Trial.h,journal_Journal_Period.h,journal_Journal_Len.h,journal_Journal_Balance.h,journal_Journal_Moved.h,journal_Journal_Accounts.h,purserref08_Journal_Moved.h,purserref08_Journal_DocTrial.h,purserref08_Journal_Accounts.h] [⟨3,3,[.opn 0 109 4,.dtc 0 0 kR,.cl 0 1 tI,.dtc 0 2 kK,.dtc 0 3 kM],[(.norm,[.sl 62 false .bool,.opn 0 109 4,.dtc 0 0 kR,.cl 0 1 tI,.dtc 0 2 kK,.dtc 0 3 kM])],0⟩,⟨0,9,[.sl 15 false tI,.opn 0 109 4,.dtc 0 0 kR,.cl 0 1 tI,.dtc 0 2 kK,.dtc 0 3 kM,.opn 4 48 3,.dtc 4 0 kE,.dtc 4 1 (.row tI 3),.cl 4 2 tI],[(.ret,[.sl 6 false .bool,.opn 0 109 4,.dtc 0 0 kR,.cl 0 1 tI,.dtc 0 2 kK,.dtc 0 3 kM,.opn 4 48 3,.dtc 4 0 kE,.dtc 4 1 (.row tI 3),.cl 4 2 tI]),(.exit 0,[.opn 0 109 4,.dtc 0 0 kR,.cl 0 1 tI,.dtc 0 2 kK,.dtc 0 3 kM,.opn 4 48 3,.dtc 4 0 kE,.dtc 4 1 (.row tI 3),.cl 4 2 tI])],0⟩,⟨3,12,[.opn 0 109 4,.dtc 0 0 kR,.cl 0 1 tI,.dtc 0 2 kK,.dtc 0 3 kM,.opn 4 48 3,.dtc 4 0 kE,.dtc 4 1 (.row tI 3),.cl 4 2 tI],[(.norm,[.sl 121 false .bool,.opn 0 109 4,.dtc 0 0 kR,.cl 0 1 tI,.dtc 0 2 kK,.dtc 0 3 kM,.opn 4 48 3,.dtc 4 0 kE,.dtc 4 1 (.row tI 3),.cl 4 2 tI])],0⟩] _ _ _ Tryz.func24 rfl (fun s y=>by kernel_rfl)
noncomputable def purserlaw08_like.h:Hnd Tryz.prog:={f:=24,h:=_,ok:=purserlaw08_like.ok,ent:=ent Tryz.func24 (by kernel_rfl) rfl}

noncomputable def purserlaw08_none.h:Hnd Tryz.prog:={f:=9,h:=_,ok:=zgg [] [] 0 Tryz.func9 rfl,ent:=ent Tryz.func9 (by kernel_rfl) rfl}

noncomputable def purserlaw08_Job_entry.h:Hnd Tryz.prog:={f:=22,h:=_,ok:=zgg [purserref07_Make.h] [⟨1,31,[.dtb 1003 52 (.flat tF)],[(.norm,[.dtb 1003 52 (.flat tF)])],0⟩,⟨0,6,[.sl 7 false tI,.opn 1004 30 2,.cl 1004 0 tI,.dtc 1004 1 (.row (.pair tA tI) 59)],[(.exit 0,[.opn 1004 30 2,.cl 1004 0 tI,.dtc 1004 1 (.row (.pair tA tI) 59)])],0⟩] 1 Tryz.func22 rfl,ent:=ent Tryz.func22 (by kernel_rfl) rfl}

noncomputable def purserref08_Journal_DocPost.h:Hnd Tryz.prog:={f:=23,h:=_,ok:=zgg [purserref07_Check.h,purserref08_Journal_Moved.h] [⟨0,7,[.sl 7 false tI,.opn 7 48 3,.dtc 7 0 kE,.dtc 7 1 (.row tI 3),.cl 7 2 tI],[(.ret,[.sl 4 false tI,.sl 5 false tI,.opn 7 48 3,.dtc 7 0 kE,.dtc 7 1 (.row tI 3),.cl 7 2 tI]),(.exit 0,[.opn 7 48 3,.dtc 7 0 kE,.dtc 7 1 (.row tI 3),.cl 7 2 tI])],0⟩,⟨3,10,[],[(.norm,[.sl 46 false .bool])],0⟩] 2 Tryz.func23 rfl,ent:=ent Tryz.func23 (by kernel_rfl) rfl}

theorem purserlaw08_JournalJobs.ok:zaj Tryz.prog 3 (hdl [(false,(.slice (.pair tI (.pair tI (.pair tI (.pair (.slice tI) (.pair tI tF))))))),(false,tI)] [.sl 0 false .bool] (fun y=>purserlaw08_JournalJobs.f y.1 y.2)):=
  zb2 [purserlaw08_none.h,journal_Journal_Post.h,journal_Journal_Close.h,journal_Journal_At.h,journal_Journal_Trial.h,purserlaw08_journals.h,journal_Journal_Period.h,journal_Journal_Len.h,journal_Journal_Balance.h,journal_Journal_Moved.h,journal_Journal_Accounts.h,journal_New.h,purserref08_Journal_DocClose.h,purserlaw08_Job_entry.h,purserref08_Journal_DocPost.h,purserlaw08_like.h] [⟨3,5,[],[(.norm,[.sl 100 false .bool])],0⟩,⟨0,9,[.sl 17 false tI,.opn 3 109 4,.dtc 3 0 kR,.cl 3 1 tI,.dtc 3 2 kK,.dtc 3 3 kM,.opn 7 48 3,.dtc 7 0 kE,.dtc 7 1 (.row tI 3),.cl 7 2 tI],[(.ret,[.sl 4 false .bool,.opn 3 109 4,.dtc 3 0 kR,.cl 3 1 tI,.dtc 3 2 kK,.dtc 3 3 kM,.opn 7 48 3,.dtc 7 0 kE,.dtc 7 1 (.row tI 3),.cl 7 2 tI]),(.exit 0,[.opn 3 109 4,.dtc 3 0 kR,.cl 3 1 tI,.dtc 3 2 kK,.dtc 3 3 kM,.opn 7 48 3,.dtc 7 0 kE,.dtc 7 1 (.row tI 3),.cl 7 2 tI])],0⟩,⟨3,9,[],[(.norm,[.sl 111 false .bool])],0⟩,⟨2,1,[.opn 3 109 4,.dtc 3 0 kR,.cl 3 1 tI,.dtc 3 2 kK,.dtc 3 3 kM,.opn 7 48 3,.dtc 7 0 kE,.dtc 7 1 (.row tI 3),.cl 7 2 tI],[(.ret,[.sl 4 false .bool,.opn 3 109 4,.dtc 3 0 kR,.cl 3 1 tI,.dtc 3 2 kK,.dtc 3 3 kM,.opn 7 48 3,.dtc 7 0 kE,.dtc 7 1 (.row tI 3),.cl 7 2 tI]),(.norm,[.opn 3 109 4,.dtc 3 0 kR,.cl 3 1 tI,.dtc 3 2 kK,.dtc 3 3 kM,.opn 7 48 3,.dtc 7 0 kE,.dtc 7 1 (.row tI 3),.cl 7 2 tI])],0⟩,⟨3,14,[],[(.norm,[.sl 140 false .bool])],0⟩,⟨3,18,[.opn 7 48 3,.dtc 7 0 kE,.dtc 7 1 (.row tI 3),.cl 7 2 tI],[(.norm,[.sl 26 false tI,.sl 27 false tI,.opn 7 48 3,.dtc 7 0 kE,.dtc 7 1 (.row tI 3),.cl 7 2 tI])],0⟩,⟨3,19,[],[(.norm,[.sl 168 false .bool])],0⟩,⟨0,22,[.sl 28 false tI,.rw 18 (.pair tA tI) 59],[(.exit 2,[.rw 18 (.pair tA tI) 59])],0⟩,⟨1,186,[.opn 3 109 4,.dtc 3 0 kR,.cl 3 1 tI,.dtc 3 2 kK,.dtc 3 3 kM],[(.ret,[.sl 4 false .bool,.opn 3 109 4,.dtc 3 0 kR,.cl 3 1 tI,.dtc 3 2 kK,.dtc 3 3 kM]),(.norm,[.opn 3 109 4,.dtc 3 0 kR,.cl 3 1 tI,.dtc 3 2 kK,.dtc 3 3 kM])],0⟩,⟨3,27,[],[(.norm,[.sl 232 false .bool])],0⟩,⟨3,32,[.opn 3 109 4,.dtc 3 0 kR,.cl 3 1 tI,.dtc 3 2 kK,.dtc 3 3 kM,.opn 7 48 3,.dtc 7 0 kE,.dtc 7 1 (.row tI 3),.cl 7 2 tI],[(.norm,[.sl 4 false .bool,.opn 3 109 4,.dtc 3 0 kR,.cl 3 1 tI,.dtc 3 2 kK,.dtc 3 3 kM,.opn 7 48 3,.dtc 7 0 kE,.dtc 7 1 (.row tI 3),.cl 7 2 tI])],0⟩] _ _ _ Tryz.func3 rfl (by kernel_rfl) (by kernel_rfl) (fun y=>by kernel_rfl)
noncomputable def purserlaw08_JournalJobs.h:Hnd Tryz.prog:={f:=3,h:=_,ok:=purserlaw08_JournalJobs.ok,ent:=ent Tryz.func3 (by kernel_rfl) rfl,v:=some (zee _ _ _),vok:=by intro g h;obtain rfl:=Option.some.inj h;exact zai (by kernel_rfl) purserlaw08_JournalJobs.ok}
end Go.Proofs.YtniohchnpfpffaaGreat.Y
