/- The program's functions compute what the plain functions tell, whatever the input; no statement of its own. -/
import Derived.Test.YtfhcockdlfidmaaProg
import Derived.Test.YtfhcockdlfidmaaAm12
import Derived.Test.YtfhcockdlfidmaaAm24
import Derived.Test.YtfhcockdlfidmaaAm25
import Derived.Test.YtfhcockdlfidmaaAm27
import Derived.Test.YtfhcockdlfidmaaE1d
import Derived.Test.YtfhcockdlfidmaaS3
import Derived.Test.YtfhcockdlfidmaaLSort
import Derived.Test.YtfhcockdlfidmaaLClone
import Derived.Test.YtfhcockdlfidmaaPh
import Derived.KernelRfl
namespace Go.Proofs.Ytfhcockdlfidmaa.Y
open Go.Am Go.Vk
set_option maxRecDepth 100000
set_option linter.unusedVariables false
theorem ent {f : FuncId} {fn : Func} {c : Code} (hf : Try.prog.funcs[f]? = some fn) (hn : (fn.name == "runtime.NumGoroutine") = false) (hb : fn.body = some c) : ∀ args w, (callFunc f args).run Try.prog w = .ok (.enter f args) w := Go.MuLone.run_callFunc_enter hf hn hb
section
variable [Dr]
theorem cmp_isNaN_int.ok : HdlOk Try.prog 71 (hdl [(false, (.int .i64))] [.sl 0 false .bool] (fun y => cmp_isNaN_int.f y)) :=
  hdl_ok [] [] _ _ _ Try.func71 rfl (by kernel_rfl) (by kernel_rfl) (fun y => by kernel_rfl)
noncomputable def cmp_isNaN_int.h : Hnd Try.prog := { f := 71, h := _, ok := cmp_isNaN_int.ok, ent := ent Try.func71 (by kernel_rfl) rfl, v := some (hdlV _ _ _), vok := by intro g h; obtain rfl := Option.some.inj h; exact hdlV_ok (by kernel_rfl) cmp_isNaN_int.ok }

theorem cmp_Compare_int.ok : HdlOk Try.prog 50 (hdl [(false, (.int .i64)), (false, (.int .i64))] [.sl 0 false (.int .i64)] (fun y => cmp_Compare_int.f y.1 y.2)) :=
  hdl_ok [cmp_isNaN_int.h] [] _ _ _ Try.func50 rfl (by kernel_rfl) (by kernel_rfl) (fun y => by kernel_rfl)
noncomputable def cmp_Compare_int.h : Hnd Try.prog := { f := 50, h := _, ok := cmp_Compare_int.ok, ent := ent Try.func50 (by kernel_rfl) rfl, v := some (hdlV _ _ _), vok := by intro g h; obtain rfl := Option.some.inj h; exact hdlV_ok (by kernel_rfl) cmp_Compare_int.ok }

theorem cmp_Or_int.ok : HdlOk Try.prog 49 (hdl [(false, (.slice (.int .i64)))] [.sl 0 false (.int .i64)] (fun y => cmp_Or_int.f y)) :=
  hdl_ok [] [⟨0, 3, [.sl 8 false (.int .i64)], [(.ret, [.sl 2 false (.int .i64)]), (.exit 0, [])], 0⟩] _ _ _ Try.func49 rfl (by kernel_rfl) (by kernel_rfl) (fun y => by kernel_rfl)
noncomputable def cmp_Or_int.h : Hnd Try.prog := { f := 49, h := _, ok := cmp_Or_int.ok, ent := ent Try.func49 (by kernel_rfl) rfl, v := some (hdlV _ _ _), vok := by intro g h; obtain rfl := Option.some.inj h; exact hdlV_ok (by kernel_rfl) cmp_Or_int.ok }

noncomputable def entry_Account_order.h : Hnd Try.prog := { f := 30, h := _, ok := inl_ok [cmp_Or_int.h, cmp_Compare_int.h] [] 2 Try.func30 rfl, ent := ent Try.func30 (by kernel_rfl) rfl }

theorem entry_Make_1.ok : HdlOk Try.prog 29 (hdl [(true, (.pair (.pair (.int .i64) (.pair (.int .i64) (.int .i64))) (.int .i64))), (true, (.pair (.pair (.int .i64) (.pair (.int .i64) (.int .i64))) (.int .i64)))] [.sl 0 false (.int .i64)] (fun y => entry_Make_1.f y.1 y.2)) :=
  hdl_ok [entry_Account_order.h] [] _ _ _ Try.func29 rfl (by kernel_rfl) (by kernel_rfl) (fun y => by kernel_rfl)
noncomputable def entry_Make_1.h : Hnd Try.prog := { f := 29, h := _, ok := entry_Make_1.ok, ent := ent Try.func29 (by kernel_rfl) rfl, v := some (hdlV _ _ _), vok := by intro g h; obtain rfl := Option.some.inj h; exact hdlV_ok (by kernel_rfl) entry_Make_1.ok }
end
instance : Dr := ⟨False⟩
theorem purserlaw07_tame.ok : HdlOk Try.prog 8 (hdl [(true, (.pair (.int .i64) (.slice (.pair (.int .i64) (.pair (.int .i64) (.pair (.int .i64) (.int .i64)))))))] [.sl 0 true (.pair (.int .i64) (.slice (.pair (.int .i64) (.pair (.int .i64) (.pair (.int .i64) (.int .i64))))))] (fun y => purserlaw07_tame.f y)) :=
  hdl_ok [] [] _ _ _ Try.func8 rfl (by kernel_rfl) (by kernel_rfl) (fun y => by kernel_rfl)
noncomputable def purserlaw07_tame.h : Hnd Try.prog := { f := 8, h := _, ok := purserlaw07_tame.ok, ent := ent Try.func8 (by kernel_rfl) rfl, v := some (hdlV _ _ _), vok := by intro g h; obtain rfl := Option.some.inj h; exact hdlV_ok (by kernel_rfl) purserlaw07_tame.ok }

theorem purserlaw07_to.ok : HdlOk Try.prog 9 (hdl [(true, (.pair (.int .i64) (.slice (.pair (.int .i64) (.pair (.int .i64) (.pair (.int .i64) (.int .i64)))))))] [.sl 0 true (.pair (.int .i64) (.slice (.pair (.pair (.int .i64) (.pair (.int .i64) (.int .i64))) (.int .i64))))] (fun y => purserlaw07_to.f y)) :=
  hdl_ok [] [⟨0, 3, [.sl 4 false (.int .i64), .opn 2 28 2, .cl 2 0 (.int .i64), .crow 2 1 (.pair (.pair (.int .i64) (.pair (.int .i64) (.int .i64))) (.int .i64)) 35], [(.exit 0, [.opn 2 28 2, .cl 2 0 (.int .i64), .crow 2 1 (.pair (.pair (.int .i64) (.pair (.int .i64) (.int .i64))) (.int .i64)) 35])], 0⟩, ⟨3, 3, [], [(.norm, [.sl 17 false .bool])], 0⟩] _ _ _ Try.func9 rfl (by kernel_rfl) (by kernel_rfl) (fun y => by kernel_rfl)
noncomputable def purserlaw07_to.h : Hnd Try.prog := { f := 9, h := _, ok := purserlaw07_to.ok, ent := ent Try.func9 (by kernel_rfl) rfl, v := some (hdlV _ _ _), vok := by intro g h; obtain rfl := Option.some.inj h; exact hdlV_ok (by kernel_rfl) purserlaw07_to.ok }

theorem entry_Opposite.ok : HdlOk Try.prog 10 (hdl [(true, (.pair (.int .i64) (.slice (.pair (.pair (.int .i64) (.pair (.int .i64) (.int .i64))) (.int .i64)))))] [.sl 0 true (.pair (.int .i64) (.slice (.pair (.pair (.int .i64) (.pair (.int .i64) (.int .i64))) (.int .i64))))] (fun y => entry_Opposite.f y)) :=
  hdl_ok [] [⟨0, 3, [.sl 12 false (.int .i64), .opn 2 28 2, .cl 2 0 (.int .i64), .crow 2 1 (.pair (.pair (.int .i64) (.pair (.int .i64) (.int .i64))) (.int .i64)) 35], [(.exit 0, [.opn 2 28 2, .cl 2 0 (.int .i64), .crow 2 1 (.pair (.pair (.int .i64) (.pair (.int .i64) (.int .i64))) (.int .i64)) 35])], 0⟩] _ _ _ Try.func10 rfl (by kernel_rfl) (by kernel_rfl) (fun y => by kernel_rfl)
noncomputable def entry_Opposite.h : Hnd Try.prog := { f := 10, h := _, ok := entry_Opposite.ok, ent := ent Try.func10 (by kernel_rfl) rfl, v := some (hdlV _ _ _), vok := by intro g h; obtain rfl := Option.some.inj h; exact hdlV_ok (by kernel_rfl) entry_Opposite.ok }

theorem purserref07_Same.ok : HdlOk Try.prog 12 (hdl [(true, (.pair (.int .i64) (.slice (.pair (.int .i64) (.pair (.int .i64) (.pair (.int .i64) (.int .i64))))))), (true, (.pair (.int .i64) (.slice (.pair (.int .i64) (.pair (.int .i64) (.pair (.int .i64) (.int .i64)))))))] [.sl 0 false .bool] (fun y => purserref07_Same.f y.1 y.2)) :=
  hdl_ok [] [⟨3, 1, [], [(.norm, [.sl 19 false .bool])], 0⟩, ⟨0, 4, [.sl 5 false (.int .i64)], [(.ret, [.sl 4 false .bool]), (.exit 0, [])], 0⟩] _ _ _ Try.func12 rfl (by kernel_rfl) (by kernel_rfl) (fun y => by kernel_rfl)
noncomputable def purserref07_Same.h : Hnd Try.prog := { f := 12, h := _, ok := purserref07_Same.ok, ent := ent Try.func12 (by kernel_rfl) rfl, v := some (hdlV _ _ _), vok := by intro g h; obtain rfl := Option.some.inj h; exact hdlV_ok (by kernel_rfl) purserref07_Same.ok }

theorem purserlaw07_from.ok : HdlOk Try.prog 13 (hdl [(true, (.pair (.int .i64) (.slice (.pair (.pair (.int .i64) (.pair (.int .i64) (.int .i64))) (.int .i64)))))] [.sl 0 true (.pair (.int .i64) (.slice (.pair (.int .i64) (.pair (.int .i64) (.pair (.int .i64) (.int .i64))))))] (fun y => purserlaw07_from.f y)) :=
  hdl_ok [] [⟨0, 3, [.sl 4 false (.int .i64), .opn 2 24 2, .cl 2 0 (.int .i64), .crow 2 1 (.pair (.int .i64) (.pair (.int .i64) (.pair (.int .i64) (.int .i64)))) 53], [(.exit 0, [.opn 2 24 2, .cl 2 0 (.int .i64), .crow 2 1 (.pair (.int .i64) (.pair (.int .i64) (.pair (.int .i64) (.int .i64)))) 53])], 0⟩] _ _ _ Try.func13 rfl (by kernel_rfl) (by kernel_rfl) (fun y => by kernel_rfl)
noncomputable def purserlaw07_from.h : Hnd Try.prog := { f := 13, h := _, ok := purserlaw07_from.ok, ent := ent Try.func13 (by kernel_rfl) rfl, v := some (hdlV _ _ _), vok := by intro g h; obtain rfl := Option.some.inj h; exact hdlV_ok (by kernel_rfl) purserlaw07_from.ok }

theorem entry_kind.ok : HdlOk Try.prog 23 (hdl [(false, (.int .i64))] [.sl 0 false .bool] (fun y => entry_kind.f y)) :=
  hdl_ok [] [⟨3, 1, [], [(.norm, [.sl 2 false .bool])], 0⟩] _ _ _ Try.func23 rfl (by kernel_rfl) (by kernel_rfl) (fun y => by kernel_rfl)
noncomputable def entry_kind.h : Hnd Try.prog := { f := 23, h := _, ok := entry_kind.ok, ent := ent Try.func23 (by kernel_rfl) rfl, v := some (hdlV _ _ _), vok := by intro g h; obtain rfl := Option.some.inj h; exact hdlV_ok (by kernel_rfl) entry_kind.ok }

theorem entry_Account_right.ok : HdlOk Try.prog 43 (hdl [(true, (.pair (.int .i64) (.pair (.int .i64) (.int .i64))))] [.sl 0 false .bool] (fun y => entry_Account_right.f y)) :=
  hdl_ok [] [⟨3, 1, [], [(.norm, [.sl 3 false .bool])], 0⟩, ⟨3, 4, [], [(.norm, [.sl 2 false .bool])], 0⟩, ⟨3, 8, [], [(.norm, [.sl 2 false .bool])], 0⟩, ⟨3, 10, [], [(.norm, [.sl 2 false .bool])], 0⟩] _ _ _ Try.func43 rfl (by kernel_rfl) (by kernel_rfl) (fun y => by kernel_rfl)
noncomputable def entry_Account_right.h : Hnd Try.prog := { f := 43, h := _, ok := entry_Account_right.ok, ent := ent Try.func43 (by kernel_rfl) rfl, v := some (hdlV _ _ _), vok := by intro g h; obtain rfl := Option.some.inj h; exact hdlV_ok (by kernel_rfl) entry_Account_right.ok }

theorem entry_Entry_leg.ok : HdlOk Try.prog 24 (hdl [(true, (.pair (.int .i64) (.slice (.pair (.pair (.int .i64) (.pair (.int .i64) (.int .i64))) (.int .i64))))), (false, (.int .i64))] [.sl 0 false (.int .i64)] (fun y => entry_Entry_leg.f y.1 y.2)) :=
  hdl_ok [entry_Account_order.h, entry_Account_right.h] [⟨3, 4, [], [(.norm, [.sl 16 false .bool])], 0⟩, ⟨3, 6, [], [(.norm, [.sl 30 false .bool])], 0⟩] _ _ _ Try.func24 rfl (by kernel_rfl) (by kernel_rfl) (fun y => by kernel_rfl)
noncomputable def entry_Entry_leg.h : Hnd Try.prog := { f := 24, h := _, ok := entry_Entry_leg.ok, ent := ent Try.func24 (by kernel_rfl) rfl, v := some (hdlV _ _ _), vok := by intro g h; obtain rfl := Option.some.inj h; exact hdlV_ok (by kernel_rfl) entry_Entry_leg.ok }

theorem entry_Check.ok : HdlOk Try.prog 14 (hdl [(true, (.pair (.int .i64) (.slice (.pair (.pair (.int .i64) (.pair (.int .i64) (.int .i64))) (.int .i64)))))] [.sl 0 false (.int .i64)] (fun y => entry_Check.f y)) :=
  hdl_ok [entry_kind.h, entry_Entry_leg.h] [⟨3, 3, [], [(.norm, [.sl 12 false .bool])], 0⟩, ⟨0, 7, [.sl 3 false (.int .i64), .sl 26 false (.int .i64)], [(.ret, [.sl 2 false (.int .i64)]), (.exit 1, [.sl 3 false (.int .i64)])], 0⟩] _ _ _ Try.func14 rfl (by kernel_rfl) (by kernel_rfl) (fun y => by kernel_rfl)
noncomputable def entry_Check.h : Hnd Try.prog := { f := 14, h := _, ok := entry_Check.ok, ent := ent Try.func14 (by kernel_rfl) rfl, v := some (hdlV _ _ _), vok := by intro g h; obtain rfl := Option.some.inj h; exact hdlV_ok (by kernel_rfl) entry_Check.ok }

theorem entry_sides.ok : HdlOk Try.prog 26 (hdl [(false, (.int .i64))] [.sl 0 false (.int .i64), .sl 1 false (.int .i64)] (fun y => entry_sides.f y)) :=
  hdl_ok [] [] _ _ _ Try.func26 rfl (by kernel_rfl) (by kernel_rfl) (fun y => by kernel_rfl)
noncomputable def entry_sides.h : Hnd Try.prog := { f := 26, h := _, ok := entry_sides.ok, ent := ent Try.func26 (by kernel_rfl) rfl, v := some (hdlV _ _ _), vok := by intro g h; obtain rfl := Option.some.inj h; exact hdlV_ok (by kernel_rfl) entry_sides.ok }

theorem entry_on.ok : HdlOk Try.prog 27 (hdl [(false, (.int .i64)), (false, (.int .i64)), (false, (.int .i64))] [.sl 0 true (.pair (.int .i64) (.pair (.int .i64) (.int .i64)))] (fun y => entry_on.f y.1 y.2.1 y.2.2)) :=
  hdl_ok [] [] _ _ _ Try.func27 rfl (by kernel_rfl) (by kernel_rfl) (fun y => by kernel_rfl)
noncomputable def entry_on.h : Hnd Try.prog := { f := 27, h := _, ok := entry_on.ok, ent := ent Try.func27 (by kernel_rfl) rfl, v := some (hdlV _ _ _), vok := by intro g h; obtain rfl := Option.some.inj h; exact hdlV_ok (by kernel_rfl) entry_on.ok }

theorem arith_Sum.ok : HdlOk Try.prog 31 (hdl [(false, (.slice (.int .i64)))] [.sl 0 false (.int .i64), .sl 1 false .bool] (fun y => arith_Sum.f y)) :=
  hdl_ok [] [⟨0, 3, [.sl 4 false (.int .u64), .sl 5 false (.int .u64), .sl 11 false (.int .i64)], [(.exit 0, [.sl 4 false (.int .u64), .sl 5 false (.int .u64)])], 0⟩] _ _ _ Try.func31 rfl (by kernel_rfl) (by kernel_rfl) (fun y => by kernel_rfl)
noncomputable def arith_Sum.h : Hnd Try.prog := { f := 31, h := _, ok := arith_Sum.ok, ent := ent Try.func31 (by kernel_rfl) rfl, v := some (hdlV _ _ _), vok := by intro g h; obtain rfl := Option.some.inj h; exact hdlV_ok (by kernel_rfl) arith_Sum.ok }

theorem entry_Sum.ok : HdlOk Try.prog 16 (hdl [(true, (.pair (.int .i64) (.slice (.pair (.pair (.int .i64) (.pair (.int .i64) (.int .i64))) (.int .i64)))))] [.sl 0 false (.int .i64)] (fun y => entry_Sum.f y)) :=
  hdl_ok [entry_Check.h, arith_Sum.h] [⟨0, 5, [.row 3 (.int .i64) 3, .sl 14 false (.int .i64)], [(.exit 0, [.row 3 (.int .i64) 3])], 0⟩] _ _ _ Try.func16 rfl (by kernel_rfl) (by kernel_rfl) (fun y => by kernel_rfl)
noncomputable def entry_Sum.h : Hnd Try.prog := { f := 16, h := _, ok := entry_Sum.ok, ent := ent Try.func16 (by kernel_rfl) rfl, v := some (hdlV _ _ _), vok := by intro g h; obtain rfl := Option.some.inj h; exact hdlV_ok (by kernel_rfl) entry_Sum.ok }

theorem path.ok : HdlOk Try.prog 25 (hdl [(false, (.slice (.int .i64)))] [.sl 0 false .bool] (fun y => path.f y)) := Sv.path_ok (fun h => h)
noncomputable def path.h : Hnd Try.prog := { f := 25, h := _, ok := path.ok, ent := ent Try.func25 (by kernel_rfl) rfl, v := some (hdlV _ _ _), vok := by intro g h; obtain rfl := Option.some.inj h; exact hdlV_ok (by kernel_rfl) path.ok }

noncomputable def sort28.h : Hnd Try.prog := { f := 28, h := sortHdl 29 (.pair (.pair (.int .i64) (.pair (.int .i64) (.int .i64))) (.int .i64)) entry_Make_1.f, ok := sort_ok (T := (.pair (.pair (.int .i64) (.pair (.int .i64) (.int .i64))) (.int .i64))) (f := entry_Make_1.f) sortL (by kernel_rfl) (@hdlV_ok ⟨True⟩ _ _ _ _ _ (by kernel_rfl) (@entry_Make_1.ok ⟨True⟩)) (ent Try.func29 (by kernel_rfl) rfl) (by kernel_rfl) (by kernel_rfl), ent := ent Try.func28 (by kernel_rfl) rfl }

theorem entry_Make.ok : HdlOk Try.prog 15 (hdl [(false, (.int .i64)), (false, (.int .i64)), (false, (.slice (.int .i64))), (false, (.int .i64))] [.sl 0 true (.pair (.int .i64) (.slice (.pair (.pair (.int .i64) (.pair (.int .i64) (.int .i64))) (.int .i64)))), .sl 1 false (.int .i64)] (fun y => entry_Make.f y.1 y.2.1 y.2.2.1 y.2.2.2)) :=
  hdl_ok [entry_Check.h, entry_kind.h, path.h, entry_sides.h, entry_on.h, sort28.h] [⟨3, 3, [], [(.norm, [.sl 21 false .bool])], 0⟩, ⟨1, 42, [.opn 1 28 2, .cl 1 0 (.int .i64), .crow 1 1 (.pair (.pair (.int .i64) (.pair (.int .i64) (.int .i64))) (.int .i64)) 35], [(.norm, [.opn 1 28 2, .cl 1 0 (.int .i64), .crow 1 1 (.pair (.pair (.int .i64) (.pair (.int .i64) (.int .i64))) (.int .i64)) 35])], 0⟩, ⟨0, 10, [.sl 56 false (.int .i64), .opn 1 28 2, .cl 1 0 (.int .i64), .crow 1 1 (.pair (.pair (.int .i64) (.pair (.int .i64) (.int .i64))) (.int .i64)) 35], [(.exit 1, [.opn 1 28 2, .cl 1 0 (.int .i64), .crow 1 1 (.pair (.pair (.int .i64) (.pair (.int .i64) (.int .i64))) (.int .i64)) 35])], 0⟩, ⟨1, 61, [.opn 1 28 2, .cl 1 0 (.int .i64), .crow 1 1 (.pair (.pair (.int .i64) (.pair (.int .i64) (.int .i64))) (.int .i64)) 35], [(.norm, [.opn 1 28 2, .cl 1 0 (.int .i64), .crow 1 1 (.pair (.pair (.int .i64) (.pair (.int .i64) (.int .i64))) (.int .i64)) 35])], 0⟩] _ _ _ Try.func15 rfl (by kernel_rfl) (by kernel_rfl) (fun y => by kernel_rfl)
noncomputable def entry_Make.h : Hnd Try.prog := { f := 15, h := _, ok := entry_Make.ok, ent := ent Try.func15 (by kernel_rfl) rfl, v := some (hdlV _ _ _), vok := by intro g h; obtain rfl := Option.some.inj h; exact hdlV_ok (by kernel_rfl) entry_Make.ok }

theorem purserlaw07_entries.ok : HdlOk Try.prog 11 (hdl [] [.sl 0 false .bool] (fun y => purserlaw07_entries.f)) :=
  hdl_ok [entry_Make.h, entry_Sum.h] [⟨3, 2, [], [(.norm, [.sl 0 false .bool])], 0⟩] _ _ _ Try.func11 rfl (by kernel_rfl) (by kernel_rfl) (fun y => by kernel_rfl)
noncomputable def purserlaw07_entries.h : Hnd Try.prog := { f := 11, h := _, ok := purserlaw07_entries.ok, ent := ent Try.func11 (by kernel_rfl) rfl, v := some (hdlV _ _ _), vok := by intro g h; obtain rfl := Option.some.inj h; exact hdlV_ok (by kernel_rfl) purserlaw07_entries.ok }

theorem purserlaw07_EntryTurns.ok : HdlOk Try.prog 3 (hdl [(true, (.pair (.int .i64) (.slice (.pair (.int .i64) (.pair (.int .i64) (.pair (.int .i64) (.int .i64)))))))] [.sl 0 false .bool] (fun y => purserlaw07_EntryTurns.f y)) :=
  hdl_ok [purserlaw07_tame.h, purserlaw07_to.h, entry_Opposite.h, purserlaw07_entries.h, purserref07_Same.h, purserlaw07_from.h, entry_Check.h] [⟨3, 4, [], [(.norm, [.sl 22 false .bool])], 0⟩, ⟨0, 7, [.sl 5 false (.int .i64)], [(.ret, [.sl 2 false .bool]), (.exit 0, [])], 0⟩, ⟨3, 9, [], [(.norm, [.sl 58 false .bool])], 0⟩, ⟨3, 11, [], [(.norm, [.sl 2 false .bool])], 0⟩] _ _ _ Try.func3 rfl (by kernel_rfl) (by kernel_rfl) (fun y => by kernel_rfl)
noncomputable def purserlaw07_EntryTurns.h : Hnd Try.prog := { f := 3, h := _, ok := purserlaw07_EntryTurns.ok, ent := ent Try.func3 (by kernel_rfl) rfl, v := some (hdlV _ _ _), vok := by intro g h; obtain rfl := Option.some.inj h; exact hdlV_ok (by kernel_rfl) purserlaw07_EntryTurns.ok }

theorem purserlaw07_EntrySums.ok : HdlOk Try.prog 5 (hdl [(false, (.int .i64)), (false, (.int .i64)), (false, (.slice (.int .i64)))] [.sl 0 false .bool] (fun y => purserlaw07_EntrySums.f y.1 y.2.1 y.2.2)) :=
  hdl_ok [entry_Opposite.h, purserlaw07_entries.h, entry_Make.h, entry_Sum.h] [⟨3, 3, [], [(.norm, [.sl 26 false .bool])], 0⟩, ⟨3, 4, [], [(.norm, [.sl 6 false .bool])], 0⟩, ⟨3, 5, [], [(.norm, [.sl 6 false .bool])], 0⟩] _ _ _ Try.func5 rfl (by kernel_rfl) (by kernel_rfl) (fun y => by kernel_rfl)
noncomputable def purserlaw07_EntrySums.h : Hnd Try.prog := { f := 5, h := _, ok := purserlaw07_EntrySums.ok, ent := ent Try.func5 (by kernel_rfl) rfl, v := some (hdlV _ _ _), vok := by intro g h; obtain rfl := Option.some.inj h; exact hdlV_ok (by kernel_rfl) purserlaw07_EntrySums.ok }

theorem purserlaw07_EntryOpens.ok : HdlOk Try.prog 4 (hdl [(false, (.int .i64)), (false, (.slice (.int .i64))), (false, (.int .i64))] [.sl 0 false .bool] (fun y => purserlaw07_EntryOpens.f y.1 y.2.1 y.2.2)) :=
  hdl_ok [entry_Opposite.h, purserlaw07_entries.h, purserref07_Same.h, purserlaw07_from.h, entry_Make.h] [⟨3, 6, [], [(.norm, [.sl 70 false .bool])], 0⟩, ⟨3, 13, [], [(.norm, [.sl 6 false .bool])], 0⟩, ⟨0, 16, [.sl 16 false (.int .i64), .mp 4 ⟨33, 3, true, (.pair (.int .i64) (.pair (.int .i64) (.int .i64))), false, (.int .i64)⟩], [(.exit 0, [.mp 4 ⟨33, 3, true, (.pair (.int .i64) (.pair (.int .i64) (.int .i64))), false, (.int .i64)⟩])], 0⟩, ⟨0, 20, [.sl 17 false (.int .i64), .mp 4 ⟨33, 3, true, (.pair (.int .i64) (.pair (.int .i64) (.int .i64))), false, (.int .i64)⟩], [(.exit 2, [.mp 4 ⟨33, 3, true, (.pair (.int .i64) (.pair (.int .i64) (.int .i64))), false, (.int .i64)⟩])], 0⟩, ⟨0, 24, [.sl 18 false (.int .i64), .mp 4 ⟨33, 3, true, (.pair (.int .i64) (.pair (.int .i64) (.int .i64))), false, (.int .i64)⟩], [(.exit 4, [.mp 4 ⟨33, 3, true, (.pair (.int .i64) (.pair (.int .i64) (.int .i64))), false, (.int .i64)⟩])], 0⟩, ⟨0, 28, [.sl 19 false (.int .i64)], [(.ret, [.sl 6 false .bool]), (.exit 6, [])], 0⟩, ⟨3, 30, [], [(.norm, [.sl 199 false .bool])], 0⟩] _ _ _ Try.func4 rfl (by kernel_rfl) (by kernel_rfl) (fun y => by kernel_rfl)
noncomputable def purserlaw07_EntryOpens.h : Hnd Try.prog := { f := 4, h := _, ok := purserlaw07_EntryOpens.ok, ent := ent Try.func4 (by kernel_rfl) rfl, v := some (hdlV _ _ _), vok := by intro g h; obtain rfl := Option.some.inj h; exact hdlV_ok (by kernel_rfl) purserlaw07_EntryOpens.ok }

noncomputable def bytes_Clone.h : Hnd Try.prog := { f := 53, h := cloneHdl 5, ok := clone_ok (fun h => h) cloneL rfl rfl, ent := ent Try.func53 (by kernel_rfl) rfl }

theorem codec_Writer_put.ok : HdlOk Try.prog 52 (hdlP 74 (.pair (.row (.int .u8) 5) (.flat .bool)) [(false, (.int .u64))] [] (fun s y => codec_Writer_put.f s y)) :=
  hdlP_ok [] [⟨0, 0, [.sl 1 false (.int .u64), .opn 0 74 2, .crow 0 0 (.int .u8) 5, .cl 0 1 .bool], [(.exit 0, [.sl 1 false (.int .u64), .opn 0 74 2, .crow 0 0 (.int .u8) 5, .cl 0 1 .bool])], 0⟩] _ _ _ _ _ Try.func52 rfl (fun s y => by kernel_rfl)
noncomputable def codec_Writer_put.h : Hnd Try.prog := { f := 52, h := _, ok := codec_Writer_put.ok, ent := ent Try.func52 (by kernel_rfl) rfl }

theorem codec_Writer_Uint.ok : HdlOk Try.prog 34 (hdlP 74 (.pair (.row (.int .u8) 5) (.flat .bool)) [(false, (.int .i64))] [] (fun s y => codec_Writer_Uint.f s y)) :=
  hdlP_ok [codec_Writer_put.h] [⟨1, 11, [.opn 0 74 2, .crow 0 0 (.int .u8) 5, .cl 0 1 .bool], [(.norm, [.opn 0 74 2, .crow 0 0 (.int .u8) 5, .cl 0 1 .bool])], 0⟩] _ _ _ _ _ Try.func34 rfl (fun s y => by kernel_rfl)
noncomputable def codec_Writer_Uint.h : Hnd Try.prog := { f := 34, h := _, ok := codec_Writer_Uint.ok, ent := ent Try.func34 (by kernel_rfl) rfl }

theorem codec_Writer_Int.ok : HdlOk Try.prog 35 (hdlP 74 (.pair (.row (.int .u8) 5) (.flat .bool)) [(false, (.int .i64))] [] (fun s y => codec_Writer_Int.f s y)) :=
  hdlP_ok [codec_Writer_put.h] [] _ _ _ _ _ Try.func35 rfl (fun s y => by kernel_rfl)
noncomputable def codec_Writer_Int.h : Hnd Try.prog := { f := 35, h := _, ok := codec_Writer_Int.ok, ent := ent Try.func35 (by kernel_rfl) rfl }

theorem codec_Writer_Bytes.ok : HdlOk Try.prog 36 (hdlP 74 (.pair (.row (.int .u8) 5) (.flat .bool)) [] [(false, (.row (.int .u8) 5)), (false, (.flat (.int .i64)))] (fun s y => codec_Writer_Bytes.f s)) :=
  hdlP_ok [bytes_Clone.h] [] _ _ _ _ _ Try.func36 rfl (fun s y => by kernel_rfl)
noncomputable def codec_Writer_Bytes.h : Hnd Try.prog := { f := 36, h := _, ok := codec_Writer_Bytes.ok, ent := ent Try.func36 (by kernel_rfl) rfl }

noncomputable def codec_Reader_dead.h : Hnd Try.prog := { f := 54, h := _, ok := inl_ok [] [] 1 Try.func54 rfl, ent := ent Try.func54 (by kernel_rfl) rfl }

noncomputable def codec_Reader_take.h : Hnd Try.prog := { f := 55, h := _, ok := inlS_ok [] [⟨3, 7, [], [(.norm, [.sl 44 false .bool])], 0⟩, ⟨4, 0, [.sl 6 false (.int .u64), .sl 7 false (.int .i64), .blk 0 100 (.pair (.slice (.int .u8)) (.int .i64))], [(.ret, [.sl 4 false (.int .u64), .sl 5 false (.int .i64), .blk 0 100 (.pair (.slice (.int .u8)) (.int .i64))])], 0⟩] 2 Try.func55 rfl, ent := ent Try.func55 (by kernel_rfl) rfl }

theorem codec_Reader_Uint.ok : HdlOk Try.prog 38 (hdlP 100 (.flat (.pair (.slice (.int .u8)) (.int .i64))) [(false, (.int .i64))] [(false, (.flat (.int .i64)))] (fun s y => codec_Reader_Uint.f s y)) :=
  hdlP_ok [codec_Reader_dead.h, codec_Reader_take.h] [⟨3, 6, [], [(.norm, [.sl 20 false .bool])], 0⟩] _ _ _ _ _ Try.func38 rfl (fun s y => by kernel_rfl)
noncomputable def codec_Reader_Uint.h : Hnd Try.prog := { f := 38, h := _, ok := codec_Reader_Uint.ok, ent := ent Try.func38 (by kernel_rfl) rfl }

theorem codec_Reader_Int.ok : HdlOk Try.prog 56 (hdlP 100 (.flat (.pair (.slice (.int .u8)) (.int .i64))) [] [(false, (.flat (.int .i64)))] (fun s y => codec_Reader_Int.f s)) :=
  hdlP_ok [codec_Reader_dead.h, codec_Reader_take.h] [] _ _ _ _ _ Try.func56 rfl (fun s y => by kernel_rfl)
noncomputable def codec_Reader_Int.h : Hnd Try.prog := { f := 56, h := _, ok := codec_Reader_Int.ok, ent := ent Try.func56 (by kernel_rfl) rfl }

theorem codec_Reader_End.ok : HdlOk Try.prog 40 (hdlP 100 (.flat (.pair (.slice (.int .u8)) (.int .i64))) [] [(false, (.flat (.int .i64)))] (fun s y => codec_Reader_End.f s)) :=
  hdlP_ok [] [⟨3, 3, [], [(.norm, [.sl 6 false .bool])], 0⟩] _ _ _ _ _ Try.func40 rfl (fun s y => by kernel_rfl)
noncomputable def codec_Reader_End.h : Hnd Try.prog := { f := 40, h := _, ok := codec_Reader_End.ok, ent := ent Try.func40 (by kernel_rfl) rfl }

theorem entry_leg.ok : HdlOk Try.prog 39 (hdlP 100 (.flat (.pair (.slice (.int .u8)) (.int .i64))) [] [(true, (.flat (.pair (.pair (.int .i64) (.pair (.int .i64) (.int .i64))) (.int .i64))))] (fun s y => entry_leg.f s)) :=
  hdlP_ok [codec_Reader_Uint.h, codec_Reader_Int.h] [] _ _ _ _ _ Try.func39 rfl (fun s y => by kernel_rfl)
noncomputable def entry_leg.h : Hnd Try.prog := { f := 39, h := _, ok := entry_leg.ok, ent := ent Try.func39 (by kernel_rfl) rfl }

theorem purserref01_Same.ok : HdlOk Try.prog 22 (hdl [(false, (.slice (.int .i64))), (false, (.slice (.int .i64)))] [.sl 0 false .bool] (fun y => purserref01_Same.f y.1 y.2)) :=
  hdl_ok [] [⟨0, 4, [.sl 5 false (.int .i64)], [(.ret, [.sl 4 false .bool]), (.exit 0, [])], 0⟩] _ _ _ Try.func22 rfl (by kernel_rfl) (by kernel_rfl) (fun y => by kernel_rfl)
noncomputable def purserref01_Same.h : Hnd Try.prog := { f := 22, h := _, ok := purserref01_Same.ok, ent := ent Try.func22 (by kernel_rfl) rfl, v := some (hdlV _ _ _), vok := by intro g h; obtain rfl := Option.some.inj h; exact hdlV_ok (by kernel_rfl) purserref01_Same.ok }

theorem entry_Write.ok : HdlOk Try.prog 18 (hdl [(true, (.pair (.int .i64) (.slice (.pair (.pair (.int .i64) (.pair (.int .i64) (.int .i64))) (.int .i64)))))] [.row 0 (.int .u8) 5, .sl 1 false (.int .i64)] (fun y => entry_Write.f y)) :=
  hdl_ok [entry_Check.h, codec_Writer_Uint.h, codec_Writer_Int.h, codec_Writer_Bytes.h] [⟨0, 8, [.sl 27 false (.int .i64), .opn 1 74 2, .crow 1 0 (.int .u8) 5, .cl 1 1 .bool], [(.exit 0, [.opn 1 74 2, .crow 1 0 (.int .u8) 5, .cl 1 1 .bool])], 0⟩] _ _ _ Try.func18 rfl (by kernel_rfl) (by kernel_rfl) (fun y => by kernel_rfl)
noncomputable def entry_Write.h : Hnd Try.prog := { f := 18, h := _, ok := entry_Write.ok, ent := ent Try.func18 (by kernel_rfl) rfl }

noncomputable def codec_Read.h : Hnd Try.prog := { f := 37, h := _, ok := inl_ok [bytes_Clone.h] [] 1 Try.func37 rfl, ent := ent Try.func37 (by kernel_rfl) rfl }

theorem entry_Read.ok : HdlOk Try.prog 19 (hdl [(false, (.slice (.int .u8)))] [.sl 0 true (.pair (.int .i64) (.slice (.pair (.pair (.int .i64) (.pair (.int .i64) (.int .i64))) (.int .i64)))), .sl 1 false (.int .i64)] (fun y => entry_Read.f y)) :=
  hdl_ok [entry_Check.h, codec_Read.h, codec_Reader_Uint.h, entry_leg.h, codec_Reader_End.h] [⟨0, 4, [.sl 14 false (.int .i64), .blk 2 100 (.pair (.slice (.int .u8)) (.int .i64)), .opn 3 28 2, .cl 3 0 (.int .i64), .crow 3 1 (.pair (.pair (.int .i64) (.pair (.int .i64) (.int .i64))) (.int .i64)) 35], [(.exit 0, [.blk 2 100 (.pair (.slice (.int .u8)) (.int .i64)), .opn 3 28 2, .cl 3 0 (.int .i64), .crow 3 1 (.pair (.pair (.int .i64) (.pair (.int .i64) (.int .i64))) (.int .i64)) 35])], 0⟩] _ _ _ Try.func19 rfl (by kernel_rfl) (by kernel_rfl) (fun y => by kernel_rfl)
noncomputable def entry_Read.h : Hnd Try.prog := { f := 19, h := _, ok := entry_Read.ok, ent := ent Try.func19 (by kernel_rfl) rfl, v := some (hdlV _ _ _), vok := by intro g h; obtain rfl := Option.some.inj h; exact hdlV_ok (by kernel_rfl) entry_Read.ok }

theorem purserref03_One.ok : HdlOk Try.prog 72 (hdl [(false, (.int .i64))] [.sl 0 false .str] (fun y => purserref03_One.f y)) :=
  hdl_ok [] [] _ _ _ Try.func72 rfl (by kernel_rfl) (by kernel_rfl) (fun y => by kernel_rfl)
noncomputable def purserref03_One.h : Hnd Try.prog := { f := 72, h := _, ok := purserref03_One.ok, ent := ent Try.func72 (by kernel_rfl) rfl, v := some (hdlV _ _ _), vok := by intro g h; obtain rfl := Option.some.inj h; exact hdlV_ok (by kernel_rfl) purserref03_One.ok }

theorem purserref03_groups.ok : HdlOk Try.prog 57 (hdl [(false, (.int .u64))] [.sl 0 false .str] (fun y => purserref03_groups.f y)) :=
  hdl_ok [purserref03_One.h] [⟨0, 2, [.sl 0 false (.int .u64), .sl 3 false .str], [(.exit 0, [.sl 0 false (.int .u64), .sl 3 false .str])], 0⟩] _ _ _ Try.func57 rfl (by kernel_rfl) (by kernel_rfl) (fun y => by kernel_rfl)
noncomputable def purserref03_groups.h : Hnd Try.prog := { f := 57, h := _, ok := purserref03_groups.ok, ent := ent Try.func57 (by kernel_rfl) rfl, v := some (hdlV _ _ _), vok := by intro g h; obtain rfl := Option.some.inj h; exact hdlV_ok (by kernel_rfl) purserref03_groups.ok }

theorem purserref03_Uint.ok : HdlOk Try.prog 41 (hdl [(false, (.int .i64))] [.sl 0 false .str] (fun y => purserref03_Uint.f y)) :=
  hdl_ok [purserref03_groups.h] [] _ _ _ Try.func41 rfl (by kernel_rfl) (by kernel_rfl) (fun y => by kernel_rfl)
noncomputable def purserref03_Uint.h : Hnd Try.prog := { f := 41, h := _, ok := purserref03_Uint.ok, ent := ent Try.func41 (by kernel_rfl) rfl, v := some (hdlV _ _ _), vok := by intro g h; obtain rfl := Option.some.inj h; exact hdlV_ok (by kernel_rfl) purserref03_Uint.ok }

theorem purserref03_Int.ok : HdlOk Try.prog 42 (hdl [(false, (.int .i64))] [.sl 0 false .str] (fun y => purserref03_Int.f y)) :=
  hdl_ok [purserref03_groups.h] [] _ _ _ Try.func42 rfl (by kernel_rfl) (by kernel_rfl) (fun y => by kernel_rfl)
noncomputable def purserref03_Int.h : Hnd Try.prog := { f := 42, h := _, ok := purserref03_Int.ok, ent := ent Try.func42 (by kernel_rfl) rfl, v := some (hdlV _ _ _), vok := by intro g h; obtain rfl := Option.some.inj h; exact hdlV_ok (by kernel_rfl) purserref03_Int.ok }

theorem purserref07_Write.ok : HdlOk Try.prog 20 (hdl [(true, (.pair (.int .i64) (.slice (.pair (.int .i64) (.pair (.int .i64) (.pair (.int .i64) (.int .i64)))))))] [.sl 0 false .str] (fun y => purserref07_Write.f y)) :=
  hdl_ok [purserref03_Uint.h, purserref03_Int.h] [⟨0, 3, [.sl 3 false .str, .sl 4 false (.int .i64)], [(.exit 0, [.sl 3 false .str])], 0⟩] _ _ _ Try.func20 rfl (by kernel_rfl) (by kernel_rfl) (fun y => by kernel_rfl)
noncomputable def purserref07_Write.h : Hnd Try.prog := { f := 20, h := _, ok := purserref07_Write.ok, ent := ent Try.func20 (by kernel_rfl) rfl, v := some (hdlV _ _ _), vok := by intro g h; obtain rfl := Option.some.inj h; exact hdlV_ok (by kernel_rfl) purserref07_Write.ok }

theorem purserref07_account.ok : HdlOk Try.prog 32 (hdl [(true, (.pair (.int .i64) (.pair (.int .i64) (.pair (.int .i64) (.int .i64)))))] [.sl 0 false .bool] (fun y => purserref07_account.f y)) :=
  hdl_ok [] [⟨3, 1, [], [(.norm, [.sl 3 false .bool])], 0⟩, ⟨3, 4, [], [(.norm, [.sl 2 false .bool])], 0⟩, ⟨3, 8, [], [(.norm, [.sl 2 false .bool])], 0⟩, ⟨3, 10, [], [(.norm, [.sl 2 false .bool])], 0⟩] _ _ _ Try.func32 rfl (by kernel_rfl) (by kernel_rfl) (fun y => by kernel_rfl)
noncomputable def purserref07_account.h : Hnd Try.prog := { f := 32, h := _, ok := purserref07_account.ok, ent := ent Try.func32 (by kernel_rfl) rfl, v := some (hdlV _ _ _), vok := by intro g h; obtain rfl := Option.some.inj h; exact hdlV_ok (by kernel_rfl) purserref07_account.ok }

theorem purserref07_rises.ok : HdlOk Try.prog 33 (hdl [(true, (.pair (.int .i64) (.pair (.int .i64) (.pair (.int .i64) (.int .i64))))), (true, (.pair (.int .i64) (.pair (.int .i64) (.pair (.int .i64) (.int .i64)))))] [.sl 0 false .bool] (fun y => purserref07_rises.f y.1 y.2)) :=
  hdl_ok [] [] _ _ _ Try.func33 rfl (by kernel_rfl) (by kernel_rfl) (fun y => by kernel_rfl)
noncomputable def purserref07_rises.h : Hnd Try.prog := { f := 33, h := _, ok := purserref07_rises.ok, ent := ent Try.func33 (by kernel_rfl) rfl, v := some (hdlV _ _ _), vok := by intro g h; obtain rfl := Option.some.inj h; exact hdlV_ok (by kernel_rfl) purserref07_rises.ok }

theorem purserref07_Check.ok : HdlOk Try.prog 17 (hdl [(true, (.pair (.int .i64) (.slice (.pair (.int .i64) (.pair (.int .i64) (.pair (.int .i64) (.int .i64)))))))] [.sl 0 false (.int .i64)] (fun y => purserref07_Check.f y)) :=
  hdl_ok [purserref07_account.h, purserref07_rises.h] [⟨3, 1, [], [(.norm, [.sl 13 false .bool])], 0⟩, ⟨3, 3, [], [(.norm, [.sl 23 false .bool])], 0⟩, ⟨0, 7, [.sl 3 false (.int .i64), .sl 4 false (.int .i64)], [(.ret, [.sl 2 false (.int .i64)]), (.exit 0, [.sl 3 false (.int .i64)])], 0⟩, ⟨3, 12, [], [(.norm, [.sl 51 false .bool])], 0⟩, ⟨3, 14, [], [(.norm, [.sl 64 false .bool])], 0⟩] _ _ _ Try.func17 rfl (by kernel_rfl) (by kernel_rfl) (fun y => by kernel_rfl)
noncomputable def purserref07_Check.h : Hnd Try.prog := { f := 17, h := _, ok := purserref07_Check.ok, ent := ent Try.func17 (by kernel_rfl) rfl, v := some (hdlV _ _ _), vok := by intro g h; obtain rfl := Option.some.inj h; exact hdlV_ok (by kernel_rfl) purserref07_Check.ok }

theorem purserref07_Make.ok : HdlOk Try.prog 21 (hdl [(false, (.int .i64)), (false, (.int .i64)), (false, (.slice (.int .i64))), (false, (.int .i64))] [.sl 0 true (.pair (.int .i64) (.slice (.pair (.int .i64) (.pair (.int .i64) (.pair (.int .i64) (.int .i64)))))), .sl 1 false (.int .i64)] (fun y => purserref07_Make.f y.1 y.2.1 y.2.2.1 y.2.2.2)) :=
  hdl_ok [purserref07_Check.h, purserref07_rises.h] [⟨3, 1, [], [(.norm, [.sl 26 false .bool])], 0⟩, ⟨3, 3, [], [(.norm, [.sl 10 false .bool])], 0⟩, ⟨0, 5, [.sl 10 false .bool, .sl 11 false (.int .i64)], [(.exit 0, [.sl 10 false .bool])], 0⟩, ⟨3, 5, [], [(.norm, [.sl 51 false .bool])], 0⟩, ⟨0, 8, [.sl 10 false .bool, .sl 12 false (.int .i64)], [(.exit 2, [.sl 10 false .bool])], 0⟩, ⟨3, 10, [], [(.norm, [.sl 10 false .bool])], 0⟩, ⟨1, 82, [.opn 1 24 2, .cl 1 0 (.int .i64), .crow 1 1 (.pair (.int .i64) (.pair (.int .i64) (.pair (.int .i64) (.int .i64)))) 53], [(.norm, [.opn 1 24 2, .cl 1 0 (.int .i64), .crow 1 1 (.pair (.int .i64) (.pair (.int .i64) (.pair (.int .i64) (.int .i64)))) 53])], 0⟩, ⟨0, 19, [.sl 16 false (.int .i64), .opn 1 24 2, .cl 1 0 (.int .i64), .crow 1 1 (.pair (.int .i64) (.pair (.int .i64) (.pair (.int .i64) (.int .i64)))) 53], [(.exit 4, [.opn 1 24 2, .cl 1 0 (.int .i64), .crow 1 1 (.pair (.int .i64) (.pair (.int .i64) (.pair (.int .i64) (.int .i64)))) 53])], 0⟩, ⟨0, 22, [.sl 17 false (.int .i64), .opn 1 24 2, .cl 1 0 (.int .i64), .crow 1 1 (.pair (.int .i64) (.pair (.int .i64) (.pair (.int .i64) (.int .i64)))) 53], [(.exit 6, [.opn 1 24 2, .cl 1 0 (.int .i64), .crow 1 1 (.pair (.int .i64) (.pair (.int .i64) (.pair (.int .i64) (.int .i64)))) 53])], 0⟩, ⟨2, 7, [.opn 1 24 2, .cl 1 0 (.int .i64), .crow 1 1 (.pair (.int .i64) (.pair (.int .i64) (.pair (.int .i64) (.int .i64)))) 53], [(.norm, [.opn 1 24 2, .cl 1 0 (.int .i64), .crow 1 1 (.pair (.int .i64) (.pair (.int .i64) (.pair (.int .i64) (.int .i64)))) 53])], 0⟩, ⟨1, 111, [.blk 5 53 (.pair (.int .i64) (.pair (.int .i64) (.pair (.int .i64) (.int .i64))))], [(.norm, [.blk 5 53 (.pair (.int .i64) (.pair (.int .i64) (.pair (.int .i64) (.int .i64))))])], 0⟩, ⟨1, 119, [.blk 5 53 (.pair (.int .i64) (.pair (.int .i64) (.pair (.int .i64) (.int .i64))))], [(.norm, [.blk 5 53 (.pair (.int .i64) (.pair (.int .i64) (.pair (.int .i64) (.int .i64))))])], 0⟩, ⟨0, 32, [.sl 19 false (.int .i64), .rw 7 (.pair (.int .i64) (.pair (.int .i64) (.pair (.int .i64) (.int .i64)))) 53], [(.exit 8, [.rw 7 (.pair (.int .i64) (.pair (.int .i64) (.pair (.int .i64) (.int .i64)))) 53])], 0⟩, ⟨3, 32, [], [(.norm, [.sl 145 false .bool])], 0⟩] _ _ _ Try.func21 rfl (by kernel_rfl) (by kernel_rfl) (fun y => by kernel_rfl)
noncomputable def purserref07_Make.h : Hnd Try.prog := { f := 21, h := _, ok := purserref07_Make.ok, ent := ent Try.func21 (by kernel_rfl) rfl, v := some (hdlV _ _ _), vok := by intro g h; obtain rfl := Option.some.inj h; exact hdlV_ok (by kernel_rfl) purserref07_Make.ok }

theorem purserlaw07_EntryChecks.ok : HdlOk Try.prog 6 (hdl [(true, (.pair (.int .i64) (.slice (.pair (.int .i64) (.pair (.int .i64) (.pair (.int .i64) (.int .i64)))))))] [.sl 0 false .bool] (fun y => purserlaw07_EntryChecks.f y)) :=
  hdl_ok [purserlaw07_tame.h, purserlaw07_to.h, purserlaw07_entries.h, purserref07_Same.h, purserlaw07_from.h, entry_Check.h, entry_Sum.h, purserref07_Check.h, entry_Write.h, entry_Read.h, purserref07_Write.h] [⟨0, 7, [.sl 7 false (.int .i64), .sl 8 false (.int .i64)], [(.exit 0, [.sl 7 false (.int .i64)])], 0⟩, ⟨3, 7, [], [(.norm, [.sl 30 false .bool])], 0⟩, ⟨3, 10, [], [(.norm, [.sl 67 false .bool])], 0⟩, ⟨3, 15, [], [(.norm, [.sl 2 false .bool])], 0⟩] _ _ _ Try.func6 rfl (by kernel_rfl) (by kernel_rfl) (fun y => by kernel_rfl)
noncomputable def purserlaw07_EntryChecks.h : Hnd Try.prog := { f := 6, h := _, ok := purserlaw07_EntryChecks.ok, ent := ent Try.func6 (by kernel_rfl) rfl, v := some (hdlV _ _ _), vok := by intro g h; obtain rfl := Option.some.inj h; exact hdlV_ok (by kernel_rfl) purserlaw07_EntryChecks.ok }

theorem purserlaw07_EntryMakes.ok : HdlOk Try.prog 7 (hdl [(false, (.int .i64)), (false, (.int .i64)), (false, (.slice (.int .i64)))] [.sl 0 false .bool] (fun y => purserlaw07_EntryMakes.f y.1 y.2.1 y.2.2)) :=
  hdl_ok [purserlaw07_entries.h, purserref07_Same.h, purserlaw07_from.h, entry_Check.h, entry_Make.h, entry_Write.h, entry_Read.h, purserref07_Make.h, purserref01_Same.h] [⟨0, 4, [.sl 8 false (.int .i64)], [(.ret, [.sl 6 false .bool]), (.exit 0, [])], 0⟩, ⟨3, 8, [], [(.norm, [.sl 62 false .bool])], 0⟩, ⟨1, 64, [], [(.ret, [.sl 6 false .bool]), (.norm, [])], 0⟩, ⟨3, 13, [], [(.norm, [.sl 92 false .bool])], 0⟩] _ _ _ Try.func7 rfl (by kernel_rfl) (by kernel_rfl) (fun y => by kernel_rfl)
noncomputable def purserlaw07_EntryMakes.h : Hnd Try.prog := { f := 7, h := _, ok := purserlaw07_EntryMakes.ok, ent := ent Try.func7 (by kernel_rfl) rfl, v := some (hdlV _ _ _), vok := by intro g h; obtain rfl := Option.some.inj h; exact hdlV_ok (by kernel_rfl) purserlaw07_EntryMakes.ok }
end Go.Proofs.Ytfhcockdlfidmaa.Y
