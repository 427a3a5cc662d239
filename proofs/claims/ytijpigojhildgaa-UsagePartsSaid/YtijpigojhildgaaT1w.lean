/- The program's functions compute what the plain functions tell, whatever the input; no statement of its own. -/
import Derived.Test.YtijpigojhildgaaProg
import Derived.Test.YtijpigojhildgaaAmE
import Derived.Test.YtijpigojhildgaaT1d
import Derived.Test.YtijpigojhildgaaSA
import Derived.Test.YtijpigojhildgaaLSort
import Derived.Test.YtijpigojhildgaaLGrow
import Derived.Test.YtijpigojhildgaaKh
import Derived.Test.YtijpigojhildgaaLClone
import Derived.KernelRfl
namespace Go.Proofs.Ytijpigojhildgaa.Y
open Go.Am Go.Vk
set_option maxRecDepth 100000
set_option linter.unusedVariables false
theorem ent {f : FuncId} {fn : Func} {c : Code} (hf : Try.prog.funcs[f]? = some fn) (hn : (fn.name == "runtime.NumGoroutine") = false) (hb : fn.body = some c) : ∀ args w, (callFunc f args).run Try.prog w = .ok (.enter f args) w := Go.MuLone.run_callFunc_enter hf hn hb
section
variable [Dr]
theorem cmp_Or_int.ok : HdlOk Try.prog 31 (hdl [(false, (.slice (.int .i64)))] [.sl 0 false (.int .i64)] (fun y => cmp_Or_int.f y)) :=
  hdl_ok [] [⟨0, 3, [.sl 8 false (.int .i64)], [(.ret, [.sl 2 false (.int .i64)]), (.exit 0, [])], 0⟩] _ _ _ Try.func31 rfl (by kernel_rfl) (by kernel_rfl) (fun y => by kernel_rfl)
noncomputable def cmp_Or_int.h : Hnd Try.prog := { f := 31, h := _, ok := cmp_Or_int.ok, ent := ent Try.func31 (by kernel_rfl) rfl, v := some (hdlV _ _ _), vok := by intro g h; obtain rfl := Option.some.inj h; exact hdlV_ok (by kernel_rfl) cmp_Or_int.ok }

theorem cmp_isNaN_int.ok : HdlOk Try.prog 58 (hdl [(false, (.int .i64))] [.sl 0 false .bool] (fun y => cmp_isNaN_int.f y)) :=
  hdl_ok [] [] _ _ _ Try.func58 rfl (by kernel_rfl) (by kernel_rfl) (fun y => by kernel_rfl)
noncomputable def cmp_isNaN_int.h : Hnd Try.prog := { f := 58, h := _, ok := cmp_isNaN_int.ok, ent := ent Try.func58 (by kernel_rfl) rfl, v := some (hdlV _ _ _), vok := by intro g h; obtain rfl := Option.some.inj h; exact hdlV_ok (by kernel_rfl) cmp_isNaN_int.ok, c := true, cok := by intro _ g h; obtain rfl := Option.some.inj h; exact hdlVC_ok (by kernel_rfl) (by kernel_rfl) cmp_isNaN_int.ok }

theorem cmp_Compare_int.ok : HdlOk Try.prog 32 (hdl [(false, (.int .i64)), (false, (.int .i64))] [.sl 0 false (.int .i64)] (fun y => cmp_Compare_int.f y.1 y.2)) :=
  hdl_ok [cmp_isNaN_int.h] [] _ _ _ Try.func32 rfl (by kernel_rfl) (by kernel_rfl) (fun y => by kernel_rfl)
noncomputable def cmp_Compare_int.h : Hnd Try.prog := { f := 32, h := _, ok := cmp_Compare_int.ok, ent := ent Try.func32 (by kernel_rfl) rfl, v := some (hdlV _ _ _), vok := by intro g h; obtain rfl := Option.some.inj h; exact hdlV_ok (by kernel_rfl) cmp_Compare_int.ok, c := true, cok := by intro _ g h; obtain rfl := Option.some.inj h; exact hdlVC_ok (by kernel_rfl) (by kernel_rfl) cmp_Compare_int.ok }

theorem tier_Merge_1.ok : HdlOk Try.prog 30 (hdl [(true, (.pair (.int .i64) (.pair (.int .i64) (.int .i64)))), (true, (.pair (.int .i64) (.pair (.int .i64) (.int .i64))))] [.sl 0 false (.int .i64)] (fun y => tier_Merge_1.f y.1 y.2)) :=
  hdl_ok [cmp_Or_int.h, cmp_Compare_int.h] [] _ _ _ Try.func30 rfl (by kernel_rfl) (by kernel_rfl) (fun y => by kernel_rfl)
noncomputable def tier_Merge_1.h : Hnd Try.prog := { f := 30, h := _, ok := tier_Merge_1.ok, ent := ent Try.func30 (by kernel_rfl) rfl, v := some (hdlV _ _ _), vok := by intro g h; obtain rfl := Option.some.inj h; exact hdlV_ok (by kernel_rfl) tier_Merge_1.ok, c := true, cok := by intro _ g h; obtain rfl := Option.some.inj h; exact hdlVC_ok (by kernel_rfl) (by kernel_rfl) tier_Merge_1.ok }

theorem usage_Row_order.ok : HdlOk Try.prog 49 (hdl [(true, (.pair (.int .i64) (.pair (.int .i64) (.pair (.int .i64) (.pair (.int .i64) (.pair (.int .i64) (.int .i64))))))), (true, (.pair (.int .i64) (.pair (.int .i64) (.pair (.int .i64) (.pair (.int .i64) (.pair (.int .i64) (.int .i64)))))))] [.sl 0 false (.int .i64)] (fun y => usage_Row_order.f y.1 y.2)) :=
  hdl_ok [cmp_Or_int.h, cmp_Compare_int.h] [] _ _ _ Try.func49 rfl (by kernel_rfl) (by kernel_rfl) (fun y => by kernel_rfl)
noncomputable def usage_Row_order.h : Hnd Try.prog := { f := 49, h := _, ok := usage_Row_order.ok, ent := ent Try.func49 (by kernel_rfl) rfl, v := some (hdlV _ _ _), vok := by intro g h; obtain rfl := Option.some.inj h; exact hdlV_ok (by kernel_rfl) usage_Row_order.ok, c := true, cok := by intro _ g h; obtain rfl := Option.some.inj h; exact hdlVC_ok (by kernel_rfl) (by kernel_rfl) usage_Row_order.ok }
end
instance : Dr := ⟨False⟩
theorem purserlaw10_few.ok : HdlOk Try.prog 8 (hdl [(false, (.slice (.pair (.int .i64) (.pair (.int .i64) (.int .i64)))))] [.row 0 (.pair (.int .i64) (.pair (.int .i64) (.int .i64))) 41] (fun y => purserlaw10_few.f y)) :=
  hdl_ok [] [] _ _ _ Try.func8 rfl (by kernel_rfl) (by kernel_rfl) (fun y => by kernel_rfl)
noncomputable def purserlaw10_few.h : Hnd Try.prog := { f := 8, h := _, ok := purserlaw10_few.ok, ent := ent Try.func8 (by kernel_rfl) rfl }

theorem arith_Sum.ok : HdlOk Try.prog 35 (hdl [(false, (.slice (.int .i64)))] [.sl 0 false (.int .i64), .sl 1 false .bool] (fun y => arith_Sum.f y)) :=
  hdl_ok [] [⟨0, 3, [.sl 4 false (.int .u64), .sl 5 false (.int .u64), .sl 11 false (.int .i64)], [(.exit 0, [.sl 4 false (.int .u64), .sl 5 false (.int .u64)])], 0⟩] _ _ _ Try.func35 rfl (by kernel_rfl) (by kernel_rfl) (fun y => by kernel_rfl)
noncomputable def arith_Sum.h : Hnd Try.prog := { f := 35, h := _, ok := arith_Sum.ok, ent := ent Try.func35 (by kernel_rfl) rfl, v := some (hdlV _ _ _), vok := by intro g h; obtain rfl := Option.some.inj h; exact hdlV_ok (by kernel_rfl) arith_Sum.ok }

theorem tier_Blocks.ok : HdlOk Try.prog 13 (hdl [(false, (.slice (.pair (.int .i64) (.pair (.int .i64) (.int .i64)))))] [.sl 0 false (.int .i64), .sl 1 false .bool] (fun y => tier_Blocks.f y)) :=
  hdl_ok [arith_Sum.h] [⟨0, 3, [.row 4 (.int .i64) 3, .sl 9 false (.int .i64)], [(.exit 0, [.row 4 (.int .i64) 3])], 0⟩] _ _ _ Try.func13 rfl (by kernel_rfl) (by kernel_rfl) (fun y => by kernel_rfl)
noncomputable def tier_Blocks.h : Hnd Try.prog := { f := 13, h := _, ok := tier_Blocks.ok, ent := ent Try.func13 (by kernel_rfl) rfl, v := some (hdlV _ _ _), vok := by intro g h; obtain rfl := Option.some.inj h; exact hdlV_ok (by kernel_rfl) tier_Blocks.ok }

noncomputable def slices_Grow_55.h : Hnd Try.prog := { f := 55, h := growHdl (.pair (.int .i64) (.pair (.int .i64) (.int .i64))) 41, ok := grow_ok (T := (.pair (.int .i64) (.pair (.int .i64) (.int .i64)))) (fun h => h) growL rfl rfl (by kernel_rfl), ent := ent Try.func55 (by kernel_rfl) rfl }

theorem tier_key.ok : HdlOk Try.prog 28 (hdl [(true, (.pair (.int .i64) (.pair (.int .i64) (.int .i64))))] [.sl 0 true (.pair (.int .i64) (.pair (.int .i64) (.int .i64)))] (fun y => tier_key.f y)) :=
  hdl_ok [] [] _ _ _ Try.func28 rfl (by kernel_rfl) (by kernel_rfl) (fun y => by kernel_rfl)
noncomputable def tier_key.h : Hnd Try.prog := { f := 28, h := _, ok := tier_key.ok, ent := ent Try.func28 (by kernel_rfl) rfl, v := some (hdlV _ _ _), vok := by intro g h; obtain rfl := Option.some.inj h; exact hdlV_ok (by kernel_rfl) tier_key.ok, c := true, cok := by intro _ g h; obtain rfl := Option.some.inj h; exact hdlVC_ok (by kernel_rfl) (by kernel_rfl) tier_key.ok }

noncomputable def sort29.h : Hnd Try.prog := { f := 29, h := sortHdl 30 (.pair (.int .i64) (.pair (.int .i64) (.int .i64))) tier_Merge_1.f, ok := sort_ok (T := (.pair (.int .i64) (.pair (.int .i64) (.int .i64)))) (f := tier_Merge_1.f) sortL (by kernel_rfl) (@hdlV_ok ⟨True⟩ _ _ _ _ _ (by kernel_rfl) (@tier_Merge_1.ok ⟨True⟩)) (ent Try.func30 (by kernel_rfl) rfl) (by kernel_rfl) (by kernel_rfl), ent := ent Try.func29 (by kernel_rfl) rfl }

noncomputable def slices_Concat_api_Line.h : Hnd Try.prog := { f := 27, h := _, ok := inl_ok [slices_Grow_55.h] [⟨3, 5, [], [(.norm, [.sl 3 false (.int .i64)])], 0⟩, ⟨0, 11, [], [], 3⟩, ⟨0, 3, [], [], 3⟩] 1 Try.func27 rfl, ent := ent Try.func27 (by kernel_rfl) rfl }

theorem tier_Merge.ok : HdlOk Try.prog 9 (hdl [(false, (.slice (.pair (.int .i64) (.pair (.int .i64) (.int .i64))))), (false, (.slice (.pair (.int .i64) (.pair (.int .i64) (.int .i64)))))] [.row 0 (.pair (.int .i64) (.pair (.int .i64) (.int .i64))) 41, .sl 1 false .bool] (fun y => tier_Merge.f y.1 y.2)) :=
  hdl_ok [tier_Blocks.h, slices_Concat_api_Line.h, tier_key.h, sort29.h] [⟨0, 3, [.sl 20 false (.int .i64), .mpD 0 ⟨41, 22, true, (.pair (.int .i64) (.pair (.int .i64) (.int .i64))), false, .bool⟩ (.row (.pair (.int .i64) (.pair (.int .i64) (.int .i64))) 41)], [(.exit 0, [.mpD 0 ⟨41, 22, true, (.pair (.int .i64) (.pair (.int .i64) (.int .i64))), false, .bool⟩ (.row (.pair (.int .i64) (.pair (.int .i64) (.int .i64))) 41)])], 0⟩, ⟨5, 9, [.row 9 (.pair (.int .i64) (.pair (.int .i64) (.int .i64))) 41], [(.ret, [.row 4 (.pair (.int .i64) (.pair (.int .i64) (.int .i64))) 41, .sl 5 false .bool]), (.exit 2, [.row 9 (.pair (.int .i64) (.pair (.int .i64) (.int .i64))) 41])], 0⟩] _ _ _ Try.func9 rfl (by kernel_rfl) (by kernel_rfl) (fun y => by kernel_rfl)
noncomputable def tier_Merge.h : Hnd Try.prog := { f := 9, h := _, ok := tier_Merge.ok, ent := ent Try.func9 (by kernel_rfl) rfl }

theorem purserref01_add.ok : HdlOk Try.prog 89 (hdl [(true, (.pair (.arr .u64 10) .bool)), (true, (.pair (.arr .u64 10) .bool))] [.sl 0 true (.pair (.arr .u64 10) .bool)] (fun y => purserref01_add.f y.1 y.2)) :=
  hdl_ok [] [⟨3, 5, [], [(.norm, [.sl 7 false (.int .u64)])], 0⟩, ⟨0, 3, [], [], 11⟩] _ _ _ Try.func89 rfl (by kernel_rfl) (by kernel_rfl) (fun y => by kernel_rfl)
noncomputable def purserref01_add.h : Hnd Try.prog := { f := 89, h := _, ok := purserref01_add.ok, ent := ent Try.func89 (by kernel_rfl) rfl, v := some (hdlV _ _ _), vok := by intro g h; obtain rfl := Option.some.inj h; exact hdlV_ok (by kernel_rfl) purserref01_add.ok }

theorem purserref01_less.ok : HdlOk Try.prog 90 (hdl [(true, (.pair (.arr .u64 10) .bool)), (true, (.pair (.arr .u64 10) .bool))] [.sl 0 false .bool] (fun y => purserref01_less.f y.1 y.2)) :=
  hdl_ok [] [⟨0, 2, [], [], 11⟩] _ _ _ Try.func90 rfl (by kernel_rfl) (by kernel_rfl) (fun y => by kernel_rfl)
noncomputable def purserref01_less.h : Hnd Try.prog := { f := 90, h := _, ok := purserref01_less.ok, ent := ent Try.func90 (by kernel_rfl) rfl, v := some (hdlV _ _ _), vok := by intro g h; obtain rfl := Option.some.inj h; exact hdlV_ok (by kernel_rfl) purserref01_less.ok }

theorem purserref01_sub.ok : HdlOk Try.prog 91 (hdl [(true, (.pair (.arr .u64 10) .bool)), (true, (.pair (.arr .u64 10) .bool))] [.sl 0 true (.pair (.arr .u64 10) .bool)] (fun y => purserref01_sub.f y.1 y.2)) :=
  hdl_ok [] [⟨3, 5, [], [(.norm, [.sl 7 false (.int .u64)])], 0⟩, ⟨3, 7, [], [(.norm, [.sl 5 false (.int .u64)])], 0⟩, ⟨0, 3, [], [], 11⟩] _ _ _ Try.func91 rfl (by kernel_rfl) (by kernel_rfl) (fun y => by kernel_rfl)
noncomputable def purserref01_sub.h : Hnd Try.prog := { f := 91, h := _, ok := purserref01_sub.ok, ent := ent Try.func91 (by kernel_rfl) rfl, v := some (hdlV _ _ _), vok := by intro g h; obtain rfl := Option.some.inj h; exact hdlV_ok (by kernel_rfl) purserref01_sub.ok }

theorem purserref01_zero.ok : HdlOk Try.prog 92 (hdl [(true, (.pair (.arr .u64 10) .bool))] [.sl 0 false .bool] (fun y => purserref01_zero.f y)) :=
  hdl_ok [] [] _ _ _ Try.func92 rfl (by kernel_rfl) (by kernel_rfl) (fun y => by kernel_rfl)
noncomputable def purserref01_zero.h : Hnd Try.prog := { f := 92, h := _, ok := purserref01_zero.ok, ent := ent Try.func92 (by kernel_rfl) rfl, v := some (hdlV _ _ _), vok := by intro g h; obtain rfl := Option.some.inj h; exact hdlV_ok (by kernel_rfl) purserref01_zero.ok }

theorem purserref01_Plus.ok : HdlOk Try.prog 59 (hdl [(true, (.pair (.arr .u64 10) .bool)), (true, (.pair (.arr .u64 10) .bool))] [.sl 0 true (.pair (.arr .u64 10) .bool)] (fun y => purserref01_Plus.f y.1 y.2)) :=
  hdl_ok [purserref01_add.h, purserref01_less.h, purserref01_sub.h, purserref01_zero.h] [⟨1, 16, [.blk 0 120 (.pair (.arr .u64 10) .bool), .blk 1 120 (.pair (.arr .u64 10) .bool)], [(.norm, [.blk 0 120 (.pair (.arr .u64 10) .bool), .blk 1 120 (.pair (.arr .u64 10) .bool)])], 0⟩, ⟨1, 23, [.blk 3 120 (.pair (.arr .u64 10) .bool)], [(.norm, [.blk 3 120 (.pair (.arr .u64 10) .bool)])], 0⟩] _ _ _ Try.func59 rfl (by kernel_rfl) (by kernel_rfl) (fun y => by kernel_rfl)
noncomputable def purserref01_Plus.h : Hnd Try.prog := { f := 59, h := _, ok := purserref01_Plus.ok, ent := ent Try.func59 (by kernel_rfl) rfl, v := some (hdlV _ _ _), vok := by intro g h; obtain rfl := Option.some.inj h; exact hdlV_ok (by kernel_rfl) purserref01_Plus.ok }

theorem purserref01_Of.ok : HdlOk Try.prog 60 (hdl [(false, (.int .i64))] [.sl 0 true (.pair (.arr .u64 10) .bool)] (fun y => purserref01_Of.f y)) :=
  hdl_ok [] [⟨1, 8, [.blk 1 120 (.pair (.arr .u64 10) .bool)], [(.norm, [.sl 4 false (.int .u64), .blk 1 120 (.pair (.arr .u64 10) .bool)])], 0⟩] _ _ _ Try.func60 rfl (by kernel_rfl) (by kernel_rfl) (fun y => by kernel_rfl)
noncomputable def purserref01_Of.h : Hnd Try.prog := { f := 60, h := _, ok := purserref01_Of.ok, ent := ent Try.func60 (by kernel_rfl) rfl, v := some (hdlV _ _ _), vok := by intro g h; obtain rfl := Option.some.inj h; exact hdlV_ok (by kernel_rfl) purserref01_Of.ok, c := true, cok := by intro _ g h; obtain rfl := Option.some.inj h; exact hdlVC_ok (by kernel_rfl) (by kernel_rfl) purserref01_Of.ok }

theorem purserref01_Int.ok : HdlOk Try.prog 61 (hdl [(true, (.pair (.arr .u64 10) .bool))] [.sl 0 false (.int .i64), .sl 1 false .bool] (fun y => purserref01_Int.f y)) :=
  hdl_ok [] [⟨3, 6, [], [(.norm, [.sl 5 false (.int .u64)])], 0⟩, ⟨3, 10, [], [(.norm, [.sl 2 false (.int .i64), .sl 3 false .bool])], 0⟩, ⟨0, 2, [], [], 9⟩] _ _ _ Try.func61 rfl (by kernel_rfl) (by kernel_rfl) (fun y => by kernel_rfl)
noncomputable def purserref01_Int.h : Hnd Try.prog := { f := 61, h := _, ok := purserref01_Int.ok, ent := ent Try.func61 (by kernel_rfl) rfl, v := some (hdlV _ _ _), vok := by intro g h; obtain rfl := Option.some.inj h; exact hdlV_ok (by kernel_rfl) purserref01_Int.ok }

theorem purserref01_Sum.ok : HdlOk Try.prog 33 (hdl [(false, (.slice (.int .i64)))] [.sl 0 false (.int .i64), .sl 1 false .bool] (fun y => purserref01_Sum.f y)) :=
  hdl_ok [purserref01_Plus.h, purserref01_Of.h, purserref01_Int.h] [⟨0, 3, [.sl 5 false (.int .i64), .blk 0 120 (.pair (.arr .u64 10) .bool)], [(.exit 0, [.blk 0 120 (.pair (.arr .u64 10) .bool)])], 0⟩] _ _ _ Try.func33 rfl (by kernel_rfl) (by kernel_rfl) (fun y => by kernel_rfl)
noncomputable def purserref01_Sum.h : Hnd Try.prog := { f := 33, h := _, ok := purserref01_Sum.ok, ent := ent Try.func33 (by kernel_rfl) rfl, v := some (hdlV _ _ _), vok := by intro g h; obtain rfl := Option.some.inj h; exact hdlV_ok (by kernel_rfl) purserref01_Sum.ok }

theorem purserref10_Merge.ok : HdlOk Try.prog 10 (hdl [(false, (.slice (.pair (.int .i64) (.pair (.int .i64) (.int .i64))))), (false, (.slice (.pair (.int .i64) (.pair (.int .i64) (.int .i64)))))] [.row 0 (.pair (.int .i64) (.pair (.int .i64) (.int .i64))) 41, .sl 1 false .bool] (fun y => purserref10_Merge.f y.1 y.2)) :=
  hdl_ok [purserref01_Sum.h] [⟨0, 4, [.row 7 (.pair (.int .i64) (.pair (.int .i64) (.int .i64))) 41, .sl 8 false (.int .i64)], [(.ret, [.row 4 (.pair (.int .i64) (.pair (.int .i64) (.int .i64))) 41, .sl 5 false .bool]), (.exit 0, [.row 7 (.pair (.int .i64) (.pair (.int .i64) (.int .i64))) 41])], 0⟩, ⟨2, 1, [.row 7 (.pair (.int .i64) (.pair (.int .i64) (.int .i64))) 41], [(.norm, [.row 7 (.pair (.int .i64) (.pair (.int .i64) (.int .i64))) 41]), (.ret, [.row 4 (.pair (.int .i64) (.pair (.int .i64) (.int .i64))) 41, .sl 5 false .bool])], 0⟩, ⟨0, 8, [.sl 9 false .bool, .sl 10 false (.int .i64)], [(.exit 2, [.sl 9 false .bool])], 0⟩, ⟨3, 10, [], [(.norm, [.sl 9 false .bool])], 0⟩, ⟨0, 14, [.row 11 (.int .i64) 3, .sl 12 false (.int .i64)], [(.exit 4, [.row 11 (.int .i64) 3])], 0⟩, ⟨3, 16, [], [(.norm, [.sl 91 false .bool])], 0⟩, ⟨1, 91, [.row 11 (.int .i64) 3], [(.norm, [.row 11 (.int .i64) 3])], 0⟩, ⟨0, 24, [.sl 15 false (.int .i64), .rw 7 (.pair (.int .i64) (.pair (.int .i64) (.int .i64))) 41], [(.exit 6, [.rw 7 (.pair (.int .i64) (.pair (.int .i64) (.int .i64))) 41])], 0⟩, ⟨3, 24, [], [(.norm, [.sl 159 false .bool])], 0⟩] _ _ _ Try.func10 rfl (by kernel_rfl) (by kernel_rfl) (fun y => by kernel_rfl)
noncomputable def purserref10_Merge.h : Hnd Try.prog := { f := 10, h := _, ok := purserref10_Merge.ok, ent := ent Try.func10 (by kernel_rfl) rfl }

theorem tariff_within.ok : HdlOk Try.prog 63 (hdl [(false, (.int .i64)), (false, (.int .i64)), (false, (.int .i64))] [.sl 0 false .bool] (fun y => tariff_within.f y.1 y.2.1 y.2.2)) :=
  hdl_ok [] [⟨3, 1, [], [(.norm, [.sl 6 false .bool])], 0⟩] _ _ _ Try.func63 rfl (by kernel_rfl) (by kernel_rfl) (fun y => by kernel_rfl)
noncomputable def tariff_within.h : Hnd Try.prog := { f := 63, h := _, ok := tariff_within.ok, ent := ent Try.func63 (by kernel_rfl) rfl, v := some (hdlV _ _ _), vok := by intro g h; obtain rfl := Option.some.inj h; exact hdlV_ok (by kernel_rfl) tariff_within.ok, c := true, cok := by intro _ g h; obtain rfl := Option.some.inj h; exact hdlVC_ok (by kernel_rfl) (by kernel_rfl) tariff_within.ok }

theorem tariff_tiers.ok : HdlOk Try.prog 64 (hdl [(false, (.slice (.pair (.int .i64) (.int .i64))))] [.sl 0 false (.int .i64)] (fun y => tariff_tiers.f y)) :=
  hdl_ok [tariff_within.h] [⟨0, 3, [.sl 3 false (.int .i64), .sl 9 false (.int .i64)], [(.ret, [.sl 2 false (.int .i64)]), (.exit 0, [])], 0⟩, ⟨3, 8, [], [(.norm, [.sl 24 false .bool])], 0⟩, ⟨3, 9, [], [(.norm, [.sl 24 false .bool])], 0⟩] _ _ _ Try.func64 rfl (by kernel_rfl) (by kernel_rfl) (fun y => by kernel_rfl)
noncomputable def tariff_tiers.h : Hnd Try.prog := { f := 64, h := _, ok := tariff_tiers.ok, ent := ent Try.func64 (by kernel_rfl) rfl, v := some (hdlV _ _ _), vok := by intro g h; obtain rfl := Option.some.inj h; exact hdlV_ok (by kernel_rfl) tariff_tiers.ok }

theorem tariff_Check.ok : HdlOk Try.prog 36 (hdl [(true, (.pair (.int .i64) (.pair (.int .i64) (.pair (.int .i64) (.slice (.pair (.int .i64) (.int .i64)))))))] [.sl 0 false (.int .i64)] (fun y => tariff_Check.f y)) :=
  hdl_ok [tariff_within.h, tariff_tiers.h] [⟨3, 1, [], [(.norm, [.sl 3 false .bool])], 0⟩, ⟨3, 3, [], [(.norm, [.sl 14 false .bool])], 0⟩] _ _ _ Try.func36 rfl (by kernel_rfl) (by kernel_rfl) (fun y => by kernel_rfl)
noncomputable def tariff_Check.h : Hnd Try.prog := { f := 36, h := _, ok := tariff_Check.ok, ent := ent Try.func36 (by kernel_rfl) rfl, v := some (hdlV _ _ _), vok := by intro g h; obtain rfl := Option.some.inj h; exact hdlV_ok (by kernel_rfl) tariff_Check.ok }

theorem tier_line.ok : HdlOk Try.prog 37 (hdl [(true, (.pair (.int .i64) (.pair (.int .i64) (.pair (.int .i64) (.slice (.pair (.int .i64) (.int .i64))))))), (false, (.int .i64)), (false, (.int .i64))] [.sl 0 true (.pair (.int .i64) (.pair (.int .i64) (.int .i64)))] (fun y => tier_line.f y.1 y.2.1 y.2.2)) :=
  hdl_ok [] [] _ _ _ Try.func37 rfl (by kernel_rfl) (by kernel_rfl) (fun y => by kernel_rfl)
noncomputable def tier_line.h : Hnd Try.prog := { f := 37, h := _, ok := tier_line.ok, ent := ent Try.func37 (by kernel_rfl) rfl, v := some (hdlV _ _ _), vok := by intro g h; obtain rfl := Option.some.inj h; exact hdlV_ok (by kernel_rfl) tier_line.ok }

noncomputable def tier_Index_1.h : Hnd Try.prog := { f := 66, h := _, ok := inl_ok [] [⟨3, 1, [], [(.norm, [.sl 3 false .bool])], 0⟩] 2 Try.func66 rfl, ent := ent Try.func66 (by kernel_rfl) rfl }

noncomputable def slices_IndexFunc_api_Tier.h : Hnd Try.prog := { f := 65, h := _, ok := inl_ok [tier_Index_1.h] [⟨0, 2, [.sl 8 false (.int .i64)], [(.ret, [.sl 4 false (.int .i64)]), (.exit 0, [])], 0⟩] 2 Try.func65 rfl, ent := ent Try.func65 (by kernel_rfl) rfl }

theorem tier_Index.ok : HdlOk Try.prog 38 (hdl [(true, (.pair (.int .i64) (.pair (.int .i64) (.pair (.int .i64) (.slice (.pair (.int .i64) (.int .i64))))))), (false, (.int .i64))] [.sl 0 false (.int .i64)] (fun y => tier_Index.f y.1 y.2)) :=
  hdl_ok [tariff_Check.h, slices_IndexFunc_api_Tier.h] [⟨3, 1, [], [(.norm, [.sl 11 false .bool])], 0⟩] _ _ _ Try.func38 rfl (by kernel_rfl) (by kernel_rfl) (fun y => by kernel_rfl)
noncomputable def tier_Index.h : Hnd Try.prog := { f := 38, h := _, ok := tier_Index.ok, ent := ent Try.func38 (by kernel_rfl) rfl, v := some (hdlV _ _ _), vok := by intro g h; obtain rfl := Option.some.inj h; exact hdlV_ok (by kernel_rfl) tier_Index.ok }

theorem tier_Split.ok : HdlOk Try.prog 16 (hdl [(true, (.pair (.int .i64) (.pair (.int .i64) (.pair (.int .i64) (.slice (.pair (.int .i64) (.int .i64))))))), (false, (.int .i64)), (false, (.int .i64))] [.row 0 (.pair (.int .i64) (.pair (.int .i64) (.int .i64))) 41, .sl 1 false (.int .i64)] (fun y => tier_Split.f y.1 y.2.1 y.2.2)) :=
  hdl_ok [tariff_Check.h, tier_line.h, tier_Index.h] [⟨3, 1, [], [(.norm, [.sl 30 false .bool])], 0⟩, ⟨3, 3, [], [(.norm, [.sl 37 false .bool])], 0⟩, ⟨0, 6, [.sl 1 false (.int .i64), .sl 2 false (.int .i64), .row 8 (.pair (.int .i64) (.pair (.int .i64) (.int .i64))) 41], [(.exit 0, [.row 8 (.pair (.int .i64) (.pair (.int .i64) (.int .i64))) 41])], 0⟩, ⟨1, 61, [], [(.norm, [.sl 10 false (.int .i64)])], 0⟩] _ _ _ Try.func16 rfl (by kernel_rfl) (by kernel_rfl) (fun y => by kernel_rfl)
noncomputable def tier_Split.h : Hnd Try.prog := { f := 16, h := _, ok := tier_Split.ok, ent := ent Try.func16 (by kernel_rfl) rfl }

theorem purserlaw10_two.ok : HdlOk Try.prog 34 (hdl [(false, (.int .i64))] [.sl 0 true (.pair (.int .i64) (.pair (.int .i64) (.pair (.int .i64) (.slice (.pair (.int .i64) (.int .i64))))))] (fun y => purserlaw10_two.f y)) :=
  hdl_ok [] [] _ _ _ Try.func34 rfl (by kernel_rfl) (by kernel_rfl) (fun y => by kernel_rfl)
noncomputable def purserlaw10_two.h : Hnd Try.prog := { f := 34, h := _, ok := purserlaw10_two.ok, ent := ent Try.func34 (by kernel_rfl) rfl, v := some (hdlV _ _ _), vok := by intro g h; obtain rfl := Option.some.inj h; exact hdlV_ok (by kernel_rfl) purserlaw10_two.ok, c := true, cok := by intro _ g h; obtain rfl := Option.some.inj h; exact hdlVC_ok (by kernel_rfl) (by kernel_rfl) purserlaw10_two.ok }

theorem purserlaw10_tiers.ok : HdlOk Try.prog 11 (hdl [] [.sl 0 false .bool] (fun y => purserlaw10_tiers.f)) :=
  hdl_ok [tier_Split.h, purserlaw10_two.h] [⟨3, 3, [], [(.norm, [.sl 0 false .bool])], 0⟩] _ _ _ Try.func11 rfl (by kernel_rfl) (by kernel_rfl) (fun y => by kernel_rfl)
noncomputable def purserlaw10_tiers.h : Hnd Try.prog := { f := 11, h := _, ok := purserlaw10_tiers.ok, ent := ent Try.func11 (by kernel_rfl) rfl, v := some (hdlV _ _ _), vok := by intro g h; obtain rfl := Option.some.inj h; exact hdlV_ok (by kernel_rfl) purserlaw10_tiers.ok, c := true, cok := by intro _ g h; obtain rfl := Option.some.inj h; exact hdlVC_ok (by kernel_rfl) (by kernel_rfl) purserlaw10_tiers.ok }

theorem purserref10_Same.ok : HdlOk Try.prog 12 (hdl [(false, (.slice (.pair (.int .i64) (.pair (.int .i64) (.int .i64))))), (false, (.slice (.pair (.int .i64) (.pair (.int .i64) (.int .i64)))))] [.sl 0 false .bool] (fun y => purserref10_Same.f y.1 y.2)) :=
  hdl_ok [] [⟨0, 4, [.sl 5 false (.int .i64)], [(.ret, [.sl 4 false .bool]), (.exit 0, [])], 0⟩] _ _ _ Try.func12 rfl (by kernel_rfl) (by kernel_rfl) (fun y => by kernel_rfl)
noncomputable def purserref10_Same.h : Hnd Try.prog := { f := 12, h := _, ok := purserref10_Same.ok, ent := ent Try.func12 (by kernel_rfl) rfl, v := some (hdlV _ _ _), vok := by intro g h; obtain rfl := Option.some.inj h; exact hdlV_ok (by kernel_rfl) purserref10_Same.ok }

theorem purserref10_Blocks.ok : HdlOk Try.prog 14 (hdl [(false, (.slice (.pair (.int .i64) (.pair (.int .i64) (.int .i64)))))] [.sl 0 false (.int .i64), .sl 1 false .bool] (fun y => purserref10_Blocks.f y)) :=
  hdl_ok [purserref01_Sum.h] [⟨0, 3, [.row 4 (.int .i64) 3, .sl 5 false (.int .i64)], [(.exit 0, [.row 4 (.int .i64) 3])], 0⟩] _ _ _ Try.func14 rfl (by kernel_rfl) (by kernel_rfl) (fun y => by kernel_rfl)
noncomputable def purserref10_Blocks.h : Hnd Try.prog := { f := 14, h := _, ok := purserref10_Blocks.ok, ent := ent Try.func14 (by kernel_rfl) rfl, v := some (hdlV _ _ _), vok := by intro g h; obtain rfl := Option.some.inj h; exact hdlV_ok (by kernel_rfl) purserref10_Blocks.ok }

theorem purserlaw10_TierMerges.ok : HdlOk Try.prog 3 (hdl [(false, (.slice (.pair (.int .i64) (.pair (.int .i64) (.int .i64))))), (false, (.slice (.pair (.int .i64) (.pair (.int .i64) (.int .i64)))))] [.sl 0 false .bool] (fun y => purserlaw10_TierMerges.f y.1 y.2)) :=
  hdl_ok [purserlaw10_few.h, tier_Merge.h, purserref10_Merge.h, purserlaw10_tiers.h, purserref10_Same.h, tier_Blocks.h, purserref10_Blocks.h] [⟨3, 5, [], [(.norm, [.sl 60 false .bool])], 0⟩, ⟨3, 9, [], [(.norm, [.sl 4 false .bool])], 0⟩] _ _ _ Try.func3 rfl (by kernel_rfl) (by kernel_rfl) (fun y => by kernel_rfl)
noncomputable def purserlaw10_TierMerges.h : Hnd Try.prog := { f := 3, h := _, ok := purserlaw10_TierMerges.ok, ent := ent Try.func3 (by kernel_rfl) rfl, v := some (hdlV _ _ _), vok := by intro g h; obtain rfl := Option.some.inj h; exact hdlV_ok (by kernel_rfl) purserlaw10_TierMerges.ok }

theorem purserlaw10_tame.ok : HdlOk Try.prog 15 (hdl [(true, (.pair (.int .i64) (.pair (.int .i64) (.pair (.int .i64) (.slice (.pair (.int .i64) (.int .i64)))))))] [.sl 0 true (.pair (.int .i64) (.pair (.int .i64) (.pair (.int .i64) (.slice (.pair (.int .i64) (.int .i64))))))] (fun y => purserlaw10_tame.f y)) :=
  hdl_ok [] [] _ _ _ Try.func15 rfl (by kernel_rfl) (by kernel_rfl) (fun y => by kernel_rfl)
noncomputable def purserlaw10_tame.h : Hnd Try.prog := { f := 15, h := _, ok := purserlaw10_tame.ok, ent := ent Try.func15 (by kernel_rfl) rfl, v := some (hdlV _ _ _), vok := by intro g h; obtain rfl := Option.some.inj h; exact hdlV_ok (by kernel_rfl) purserlaw10_tame.ok }

theorem purserref09_Check.ok : HdlOk Try.prog 17 (hdl [(true, (.pair (.int .i64) (.pair (.int .i64) (.pair (.int .i64) (.slice (.pair (.int .i64) (.int .i64)))))))] [.sl 0 false (.int .i64)] (fun y => purserref09_Check.f y)) :=
  hdl_ok [] [⟨3, 1, [], [(.norm, [.sl 23 false .bool])], 0⟩, ⟨3, 3, [], [(.norm, [.sl 31 false .bool])], 0⟩, ⟨3, 5, [], [(.norm, [.sl 41 false .bool])], 0⟩, ⟨0, 9, [.sl 3 false (.int .i64), .sl 4 false (.int .i64)], [(.ret, [.sl 2 false (.int .i64)]), (.exit 0, [])], 0⟩, ⟨3, 12, [], [(.norm, [.sl 61 false .bool])], 0⟩, ⟨1, 67, [], [(.ret, [.sl 2 false (.int .i64)]), (.norm, [])], 0⟩, ⟨3, 17, [], [(.norm, [.sl 79 false .bool])], 0⟩] _ _ _ Try.func17 rfl (by kernel_rfl) (by kernel_rfl) (fun y => by kernel_rfl)
noncomputable def purserref09_Check.h : Hnd Try.prog := { f := 17, h := _, ok := purserref09_Check.ok, ent := ent Try.func17 (by kernel_rfl) rfl, v := some (hdlV _ _ _), vok := by intro g h; obtain rfl := Option.some.inj h; exact hdlV_ok (by kernel_rfl) purserref09_Check.ok }

theorem purserlaw10_TierWhole.ok : HdlOk Try.prog 4 (hdl [(true, (.pair (.int .i64) (.pair (.int .i64) (.pair (.int .i64) (.slice (.pair (.int .i64) (.int .i64))))))), (false, (.int .i64)), (true, (.arr .i64 2))] [.sl 0 false .bool] (fun y => purserlaw10_TierWhole.f y.1 y.2.1 y.2.2)) :=
  hdl_ok [tier_Merge.h, purserlaw10_tiers.h, purserref10_Same.h, tier_Blocks.h, purserlaw10_tame.h, tier_Split.h, purserref09_Check.h] [⟨3, 7, [], [(.norm, [.sl 79 false .bool])], 0⟩, ⟨3, 12, [], [(.norm, [.sl 95 false .bool])], 0⟩, ⟨3, 15, [], [(.norm, [.sl 6 false .bool])], 0⟩, ⟨3, 17, [], [(.norm, [.sl 6 false .bool])], 0⟩] _ _ _ Try.func4 rfl (by kernel_rfl) (by kernel_rfl) (fun y => by kernel_rfl)
noncomputable def purserlaw10_TierWhole.h : Hnd Try.prog := { f := 4, h := _, ok := purserlaw10_TierWhole.ok, ent := ent Try.func4 (by kernel_rfl) rfl, v := some (hdlV _ _ _), vok := by intro g h; obtain rfl := Option.some.inj h; exact hdlV_ok (by kernel_rfl) purserlaw10_TierWhole.ok }

theorem usage_within.ok : HdlOk Try.prog 71 (hdl [(false, (.int .i64)), (false, (.int .i64)), (false, (.int .i64))] [.sl 0 false .bool] (fun y => usage_within.f y.1 y.2.1 y.2.2)) :=
  hdl_ok [] [⟨3, 1, [], [(.norm, [.sl 6 false .bool])], 0⟩] _ _ _ Try.func71 rfl (by kernel_rfl) (by kernel_rfl) (fun y => by kernel_rfl)
noncomputable def usage_within.h : Hnd Try.prog := { f := 71, h := _, ok := usage_within.ok, ent := ent Try.func71 (by kernel_rfl) rfl, v := some (hdlV _ _ _), vok := by intro g h; obtain rfl := Option.some.inj h; exact hdlV_ok (by kernel_rfl) usage_within.ok, c := true, cok := by intro _ g h; obtain rfl := Option.some.inj h; exact hdlVC_ok (by kernel_rfl) (by kernel_rfl) usage_within.ok }

theorem usage_Row_place.ok : HdlOk Try.prog 48 (hdl [(true, (.pair (.int .i64) (.pair (.int .i64) (.pair (.int .i64) (.pair (.int .i64) (.pair (.int .i64) (.int .i64)))))))] [.sl 0 false .bool] (fun y => usage_Row_place.f y)) :=
  hdl_ok [usage_within.h] [⟨3, 1, [], [(.norm, [.sl 2 false .bool])], 0⟩] _ _ _ Try.func48 rfl (by kernel_rfl) (by kernel_rfl) (fun y => by kernel_rfl)
noncomputable def usage_Row_place.h : Hnd Try.prog := { f := 48, h := _, ok := usage_Row_place.ok, ent := ent Try.func48 (by kernel_rfl) rfl, v := some (hdlV _ _ _), vok := by intro g h; obtain rfl := Option.some.inj h; exact hdlV_ok (by kernel_rfl) usage_Row_place.ok, c := true, cok := by intro _ g h; obtain rfl := Option.some.inj h; exact hdlVC_ok (by kernel_rfl) (by kernel_rfl) usage_Row_place.ok }

theorem usage_Row_key.ok : HdlOk Try.prog 42 (hdl [(true, (.pair (.int .i64) (.pair (.int .i64) (.pair (.int .i64) (.pair (.int .i64) (.pair (.int .i64) (.int .i64)))))))] [.sl 0 true (.pair (.int .i64) (.pair (.int .i64) (.pair (.int .i64) (.pair (.int .i64) (.pair (.int .i64) (.int .i64))))))] (fun y => usage_Row_key.f y)) :=
  hdl_ok [] [] _ _ _ Try.func42 rfl (by kernel_rfl) (by kernel_rfl) (fun y => by kernel_rfl)
noncomputable def usage_Row_key.h : Hnd Try.prog := { f := 42, h := _, ok := usage_Row_key.ok, ent := ent Try.func42 (by kernel_rfl) rfl, v := some (hdlV _ _ _), vok := by intro g h; obtain rfl := Option.some.inj h; exact hdlV_ok (by kernel_rfl) usage_Row_key.ok, c := true, cok := by intro _ g h; obtain rfl := Option.some.inj h; exact hdlVC_ok (by kernel_rfl) (by kernel_rfl) usage_Row_key.ok }

theorem usage_Sheet_changes.ok : HdlOk Try.prog 41 (hdlP 80 (.map ⟨87, 3, true, (.pair (.int .i64) (.pair (.int .i64) (.pair (.int .i64) (.pair (.int .i64) (.pair (.int .i64) (.int .i64)))))), false, (.int .i64)⟩) [(false, (.int .i64)), (false, (.int .i64)), (false, (.int .i64)), (false, (.slice (.pair (.int .i64) (.pair (.int .i64) (.int .i64)))))] [(false, (.row (.pair (.int .i64) (.pair (.int .i64) (.pair (.int .i64) (.pair (.int .i64) (.pair (.int .i64) (.int .i64)))))) 87)), (false, (.flat (.int .i64)))] (fun s y => usage_Sheet_changes.f s y.1 y.2.1 y.2.2.1 y.2.2.2)) :=
  hdlP_ok [tier_Merge.h, usage_Row_place.h, usage_within.h] [⟨0, 8, [.row 14 (.pair (.int .i64) (.pair (.int .i64) (.pair (.int .i64) (.pair (.int .i64) (.pair (.int .i64) (.int .i64)))))) 87, .sl 37 false (.int .i64)], [(.ret, [.row 10 (.pair (.int .i64) (.pair (.int .i64) (.pair (.int .i64) (.pair (.int .i64) (.pair (.int .i64) (.int .i64)))))) 87, .sl 11 false (.int .i64)]), (.exit 0, [.row 14 (.pair (.int .i64) (.pair (.int .i64) (.pair (.int .i64) (.pair (.int .i64) (.pair (.int .i64) (.int .i64)))))) 87])], 0⟩, ⟨3, 11, [], [(.norm, [.sl 59 false .bool])], 0⟩, ⟨1, 62, [.row 14 (.pair (.int .i64) (.pair (.int .i64) (.pair (.int .i64) (.pair (.int .i64) (.pair (.int .i64) (.int .i64)))))) 87], [(.norm, [.row 14 (.pair (.int .i64) (.pair (.int .i64) (.pair (.int .i64) (.pair (.int .i64) (.pair (.int .i64) (.int .i64)))))) 87])], 0⟩] _ _ _ _ _ Try.func41 rfl (fun s y => by kernel_rfl)
noncomputable def usage_Sheet_changes.h : Hnd Try.prog := { f := 41, h := _, ok := usage_Sheet_changes.ok, ent := ent Try.func41 (by kernel_rfl) rfl }

theorem usage_Sheet_Add.ok : HdlOk Try.prog 20 (hdlP 80 (.map ⟨87, 3, true, (.pair (.int .i64) (.pair (.int .i64) (.pair (.int .i64) (.pair (.int .i64) (.pair (.int .i64) (.int .i64)))))), false, (.int .i64)⟩) [(false, (.int .i64)), (false, (.int .i64)), (false, (.int .i64)), (false, (.slice (.pair (.int .i64) (.pair (.int .i64) (.int .i64)))))] [(false, (.flat (.int .i64)))] (fun s y => usage_Sheet_Add.f s y.1 y.2.1 y.2.2.1 y.2.2.2)) :=
  hdlP_ok [usage_Sheet_changes.h, usage_Row_key.h] [⟨0, 6, [.sl 13 false (.int .i64), .sl 14 false .bool, .sl 40 false (.int .i64)], [(.exit 0, [.sl 13 false (.int .i64), .sl 14 false .bool])], 0⟩, ⟨1, 55, [], [(.norm, [.sl 13 false (.int .i64)])], 0⟩, ⟨3, 11, [], [(.norm, [.sl 14 false .bool])], 0⟩, ⟨0, 18, [.sl 74 false (.int .i64), .mp 2 ⟨87, 3, true, (.pair (.int .i64) (.pair (.int .i64) (.pair (.int .i64) (.pair (.int .i64) (.pair (.int .i64) (.int .i64)))))), false, (.int .i64)⟩], [(.exit 3, [.mp 2 ⟨87, 3, true, (.pair (.int .i64) (.pair (.int .i64) (.pair (.int .i64) (.pair (.int .i64) (.pair (.int .i64) (.int .i64)))))), false, (.int .i64)⟩])], 0⟩] _ _ _ _ _ Try.func20 rfl (fun s y => by kernel_rfl)
noncomputable def usage_Sheet_Add.h : Hnd Try.prog := { f := 20, h := _, ok := usage_Sheet_Add.ok, ent := ent Try.func20 (by kernel_rfl) rfl }

theorem usage_Sheet_Position.ok : HdlOk Try.prog 24 (hdlP 80 (.map ⟨87, 3, true, (.pair (.int .i64) (.pair (.int .i64) (.pair (.int .i64) (.pair (.int .i64) (.pair (.int .i64) (.int .i64)))))), false, (.int .i64)⟩) [(false, (.int .i64)), (false, (.int .i64)), (false, (.int .i64))] [(false, (.flat (.int .i64)))] (fun s y => usage_Sheet_Position.f s y.1 y.2.1 y.2.2)) :=
  hdlP_ok [] [⟨5, 5, [.sl 9 false (.int .i64)], [(.exit 0, [.sl 9 false (.int .i64)])], 0⟩, ⟨3, 7, [], [(.norm, [.sl 39 false .bool])], 0⟩, ⟨1, 39, [], [(.norm, [.sl 9 false (.int .i64)])], 0⟩] _ _ _ _ _ Try.func24 rfl (fun s y => by kernel_rfl)
noncomputable def usage_Sheet_Position.h : Hnd Try.prog := { f := 24, h := _, ok := usage_Sheet_Position.ok, ent := ent Try.func24 (by kernel_rfl) rfl }

noncomputable def keys96.h : Hnd Try.prog := { f := 96, h := Kv98.keysHdl, ok := Kv98.keys_ok (fun h => h), ent := ent Try.func96 (by kernel_rfl) rfl }

noncomputable def sort97.h : Hnd Try.prog := { f := 97, h := sortHdl 49 (.pair (.int .i64) (.pair (.int .i64) (.pair (.int .i64) (.pair (.int .i64) (.pair (.int .i64) (.int .i64)))))) usage_Row_order.f, ok := sort_ok (T := (.pair (.int .i64) (.pair (.int .i64) (.pair (.int .i64) (.pair (.int .i64) (.pair (.int .i64) (.int .i64))))))) (f := usage_Row_order.f) sortR (by kernel_rfl) (@hdlV_ok ⟨True⟩ _ _ _ _ _ (by kernel_rfl) (@usage_Row_order.ok ⟨True⟩)) (ent Try.func49 (by kernel_rfl) rfl) (by kernel_rfl) (by kernel_rfl), ent := ent Try.func97 (by kernel_rfl) rfl }

noncomputable def slices_SortedFunc_usage_Row.h : Hnd Try.prog := { f := 73, h := _, ok := inl_ok [keys96.h, sort97.h] [] 2 Try.func73 rfl, ent := ent Try.func73 (by kernel_rfl) rfl }

noncomputable def maps_Keys_usage_Row_int.h : Hnd Try.prog := { f := 74, h := _, ok := inl_ok [] [] 1 Try.func74 rfl, ent := ent Try.func74 (by kernel_rfl) rfl }

theorem usage_Sheet_all.ok : HdlOk Try.prog 44 (hdlP 80 (.map ⟨87, 3, true, (.pair (.int .i64) (.pair (.int .i64) (.pair (.int .i64) (.pair (.int .i64) (.pair (.int .i64) (.int .i64)))))), false, (.int .i64)⟩) [] [(false, (.row (.pair (.int .i64) (.pair (.int .i64) (.pair (.int .i64) (.pair (.int .i64) (.pair (.int .i64) (.int .i64)))))) 87))] (fun s y => usage_Sheet_all.f s)) :=
  hdlP_ok [slices_SortedFunc_usage_Row.h, maps_Keys_usage_Row_int.h] [⟨0, 5, [.sl 16 false (.int .i64), .rw 3 (.pair (.int .i64) (.pair (.int .i64) (.pair (.int .i64) (.pair (.int .i64) (.pair (.int .i64) (.int .i64)))))) 87], [(.exit 0, [.rw 3 (.pair (.int .i64) (.pair (.int .i64) (.pair (.int .i64) (.pair (.int .i64) (.pair (.int .i64) (.int .i64)))))) 87])], 0⟩] _ _ _ _ _ Try.func44 rfl (fun s y => by kernel_rfl)
noncomputable def usage_Sheet_all.h : Hnd Try.prog := { f := 44, h := _, ok := usage_Sheet_all.ok, ent := ent Try.func44 (by kernel_rfl) rfl }

theorem usage_Sheet_Len.ok : HdlOk Try.prog 21 (hdlP 80 (.map ⟨87, 3, true, (.pair (.int .i64) (.pair (.int .i64) (.pair (.int .i64) (.pair (.int .i64) (.pair (.int .i64) (.int .i64)))))), false, (.int .i64)⟩) [] [(false, (.flat (.int .i64)))] (fun s y => usage_Sheet_Len.f s)) :=
  hdlP_ok [] [] _ _ _ _ _ Try.func21 rfl (fun s y => by kernel_rfl)
noncomputable def usage_Sheet_Len.h : Hnd Try.prog := { f := 21, h := _, ok := usage_Sheet_Len.ok, ent := ent Try.func21 (by kernel_rfl) rfl }

theorem slices_Index___int_int.ok : HdlOk Try.prog 94 (hdl [(false, (.slice (.int .i64))), (false, (.int .i64))] [.sl 0 false (.int .i64)] (fun y => slices_Index___int_int.f y.1 y.2)) :=
  hdl_ok [] [⟨0, 2, [.sl 8 false (.int .i64)], [(.ret, [.sl 4 false (.int .i64)]), (.exit 0, [])], 0⟩] _ _ _ Try.func94 rfl (by kernel_rfl) (by kernel_rfl) (fun y => by kernel_rfl)
noncomputable def slices_Index___int_int.h : Hnd Try.prog := { f := 94, h := _, ok := slices_Index___int_int.ok, ent := ent Try.func94 (by kernel_rfl) rfl, v := some (hdlV _ _ _), vok := by intro g h; obtain rfl := Option.some.inj h; exact hdlV_ok (by kernel_rfl) slices_Index___int_int.ok }

theorem slices_Contains___int_int.ok : HdlOk Try.prog 69 (hdl [(false, (.slice (.int .i64))), (false, (.int .i64))] [.sl 0 false .bool] (fun y => slices_Contains___int_int.f y.1 y.2)) :=
  hdl_ok [slices_Index___int_int.h] [] _ _ _ Try.func69 rfl (by kernel_rfl) (by kernel_rfl) (fun y => by kernel_rfl)
noncomputable def slices_Contains___int_int.h : Hnd Try.prog := { f := 69, h := _, ok := slices_Contains___int_int.ok, ent := ent Try.func69 (by kernel_rfl) rfl, v := some (hdlV _ _ _), vok := by intro g h; obtain rfl := Option.some.inj h; exact hdlV_ok (by kernel_rfl) slices_Contains___int_int.ok }

theorem bits_Mul64.ok : HdlOk Try.prog 104 (hdl [(false, (.int .u64)), (false, (.int .u64))] [.sl 0 false (.int .u64), .sl 1 false (.int .u64)] (fun y => bits_Mul64.f y.1 y.2)) :=
  hdl_ok [] [] _ _ _ Try.func104 rfl (by kernel_rfl) (by kernel_rfl) (fun y => by kernel_rfl)
noncomputable def bits_Mul64.h : Hnd Try.prog := { f := 104, h := _, ok := bits_Mul64.ok, ent := ent Try.func104 (by kernel_rfl) rfl, v := some (hdlV _ _ _), vok := by intro g h; obtain rfl := Option.some.inj h; exact hdlV_ok (by kernel_rfl) bits_Mul64.ok, c := true, cok := by intro _ g h; obtain rfl := Option.some.inj h; exact hdlVC_ok (by kernel_rfl) (by kernel_rfl) bits_Mul64.ok }

theorem arith_size.ok : HdlOk Try.prog 105 (hdl [(false, (.int .i64))] [.sl 0 false (.int .u64)] (fun y => arith_size.f y)) :=
  hdl_ok [] [] _ _ _ Try.func105 rfl (by kernel_rfl) (by kernel_rfl) (fun y => by kernel_rfl)
noncomputable def arith_size.h : Hnd Try.prog := { f := 105, h := _, ok := arith_size.ok, ent := ent Try.func105 (by kernel_rfl) rfl, v := some (hdlV _ _ _), vok := by intro g h; obtain rfl := Option.some.inj h; exact hdlV_ok (by kernel_rfl) arith_size.ok, c := true, cok := by intro _ g h; obtain rfl := Option.some.inj h; exact hdlVC_ok (by kernel_rfl) (by kernel_rfl) arith_size.ok }

theorem arith_Mul.ok : HdlOk Try.prog 95 (hdl [(false, (.int .i64)), (false, (.int .i64))] [.sl 0 false (.int .i64), .sl 1 false .bool] (fun y => arith_Mul.f y.1 y.2)) :=
  hdl_ok [bits_Mul64.h, arith_size.h] [⟨3, 5, [], [(.norm, [.sl 25 false .bool])], 0⟩] _ _ _ Try.func95 rfl (by kernel_rfl) (by kernel_rfl) (fun y => by kernel_rfl)
noncomputable def arith_Mul.h : Hnd Try.prog := { f := 95, h := _, ok := arith_Mul.ok, ent := ent Try.func95 (by kernel_rfl) rfl, v := some (hdlV _ _ _), vok := by intro g h; obtain rfl := Option.some.inj h; exact hdlV_ok (by kernel_rfl) arith_Mul.ok, c := true, cok := by intro _ g h; obtain rfl := Option.some.inj h; exact hdlVC_ok (by kernel_rfl) (by kernel_rfl) arith_Mul.ok }

theorem tier_Cost.ok : HdlOk Try.prog 70 (hdl [(false, (.slice (.pair (.int .i64) (.pair (.int .i64) (.int .i64)))))] [.sl 0 false (.int .i64), .sl 1 false .bool] (fun y => tier_Cost.f y)) :=
  hdl_ok [arith_Sum.h, arith_Mul.h] [⟨0, 3, [.row 4 (.int .i64) 3, .sl 11 false (.int .i64)], [(.ret, [.sl 2 false (.int .i64), .sl 3 false .bool]), (.exit 0, [.row 4 (.int .i64) 3])], 0⟩] _ _ _ Try.func70 rfl (by kernel_rfl) (by kernel_rfl) (fun y => by kernel_rfl)
noncomputable def tier_Cost.h : Hnd Try.prog := { f := 70, h := _, ok := tier_Cost.ok, ent := ent Try.func70 (by kernel_rfl) rfl, v := some (hdlV _ _ _), vok := by intro g h; obtain rfl := Option.some.inj h; exact hdlV_ok (by kernel_rfl) tier_Cost.ok }

theorem usage_Amount.ok : HdlOk Try.prog 40 (hdl [(false, (.slice (.pair (.int .i64) (.pair (.int .i64) (.pair (.int .i64) (.pair (.int .i64) (.pair (.int .i64) (.int .i64))))))))] [.sl 0 false (.int .i64), .sl 1 false .bool] (fun y => usage_Amount.f y)) :=
  hdl_ok [tier_Cost.h] [⟨0, 3, [.row 4 (.pair (.int .i64) (.pair (.int .i64) (.int .i64))) 41, .sl 9 false (.int .i64)], [(.exit 0, [.row 4 (.pair (.int .i64) (.pair (.int .i64) (.int .i64))) 41])], 0⟩] _ _ _ Try.func40 rfl (by kernel_rfl) (by kernel_rfl) (fun y => by kernel_rfl)
noncomputable def usage_Amount.h : Hnd Try.prog := { f := 40, h := _, ok := usage_Amount.ok, ent := ent Try.func40 (by kernel_rfl) rfl, v := some (hdlV _ _ _), vok := by intro g h; obtain rfl := Option.some.inj h; exact hdlV_ok (by kernel_rfl) usage_Amount.ok }

noncomputable def usage_New.h : Hnd Try.prog := { f := 18, h := _, ok := inl_ok [] [] 0 Try.func18 rfl, ent := ent Try.func18 (by kernel_rfl) rfl }

noncomputable def usage_Sheet_Rows_1.h : Hnd Try.prog := { f := 68, h := _, ok := inl_ok [slices_Contains___int_int.h] [⟨3, 1, [], [(.norm, [.sl 4 false .bool])], 0⟩] 3 Try.func68 rfl, ent := ent Try.func68 (by kernel_rfl) rfl }

noncomputable def slices_IndexFunc_usage_Row.h : Hnd Try.prog := { f := 93, h := _, ok := inl_ok [usage_Sheet_Rows_1.h] [⟨0, 2, [.sl 8 false (.int .i64)], [(.ret, [.sl 4 false (.int .i64)]), (.exit 0, [])], 0⟩] 2 Try.func93 rfl, ent := ent Try.func93 (by kernel_rfl) rfl }

noncomputable def slices_DeleteFunc_usage_Row.h : Hnd Try.prog := { f := 67, h := _, ok := inl_ok [usage_Sheet_Rows_1.h, slices_IndexFunc_usage_Row.h] [⟨0, 5, [.sl 5 false (.int .i64), .sl 6 false (.int .i64), .rw 9 (.pair (.int .i64) (.pair (.int .i64) (.pair (.int .i64) (.pair (.int .i64) (.pair (.int .i64) (.int .i64)))))) 87], [(.exit 0, [.sl 5 false (.int .i64), .rw 9 (.pair (.int .i64) (.pair (.int .i64) (.pair (.int .i64) (.pair (.int .i64) (.pair (.int .i64) (.int .i64)))))) 87])], 0⟩, ⟨1, 29, [.rw 9 (.pair (.int .i64) (.pair (.int .i64) (.pair (.int .i64) (.pair (.int .i64) (.pair (.int .i64) (.int .i64)))))) 87], [(.norm, [.sl 5 false (.int .i64), .rw 9 (.pair (.int .i64) (.pair (.int .i64) (.pair (.int .i64) (.pair (.int .i64) (.pair (.int .i64) (.int .i64)))))) 87])], 0⟩] 2 Try.func67 rfl, ent := ent Try.func67 (by kernel_rfl) rfl }

noncomputable def usage_Sheet_Rows.h : Hnd Try.prog := { f := 39, h := _, ok := inl_ok [usage_Sheet_all.h, slices_DeleteFunc_usage_Row.h] [] 3 Try.func39 rfl, ent := ent Try.func39 (by kernel_rfl) rfl }

theorem purserlaw20_uses.ok : HdlOk Try.prog 19 (hdl [] [.sl 0 false .bool] (fun y => purserlaw20_uses.f)) :=
  hdl_ok [usage_New.h, usage_Sheet_Add.h, usage_Sheet_Position.h, usage_Sheet_Rows.h, usage_Amount.h] [⟨3, 6, [.opn 1 80 1, .cmap 1 0 ⟨87, 3, true, (.pair (.int .i64) (.pair (.int .i64) (.pair (.int .i64) (.pair (.int .i64) (.pair (.int .i64) (.int .i64)))))), false, (.int .i64)⟩], [(.norm, [.sl 0 false .bool, .opn 1 80 1, .cmap 1 0 ⟨87, 3, true, (.pair (.int .i64) (.pair (.int .i64) (.pair (.int .i64) (.pair (.int .i64) (.pair (.int .i64) (.int .i64)))))), false, (.int .i64)⟩])], 0⟩] _ _ _ Try.func19 rfl (by kernel_rfl) (by kernel_rfl) (fun y => by kernel_rfl)
noncomputable def purserlaw20_uses.h : Hnd Try.prog := { f := 19, h := _, ok := purserlaw20_uses.ok, ent := ent Try.func19 (by kernel_rfl) rfl, v := some (hdlV _ _ _), vok := by intro g h; obtain rfl := Option.some.inj h; exact hdlV_ok (by kernel_rfl) purserlaw20_uses.ok, c := true, cok := by intro _ g h; obtain rfl := Option.some.inj h; exact hdlVC_ok (by kernel_rfl) (by kernel_rfl) purserlaw20_uses.ok }

noncomputable def bytes_Clone.h : Hnd Try.prog := { f := 75, h := cloneHdl 5, ok := clone_ok (fun h => h) cloneL rfl rfl, ent := ent Try.func75 (by kernel_rfl) rfl }

theorem codec_Writer_put.ok : HdlOk Try.prog 72 (hdlP 91 (.pair (.row (.int .u8) 5) (.flat .bool)) [(false, (.int .u64))] [] (fun s y => codec_Writer_put.f s y)) :=
  hdlP_ok [] [⟨0, 0, [.sl 1 false (.int .u64), .opn 0 91 2, .crow 0 0 (.int .u8) 5, .cl 0 1 .bool], [(.exit 0, [.sl 1 false (.int .u64), .opn 0 91 2, .crow 0 0 (.int .u8) 5, .cl 0 1 .bool])], 0⟩] _ _ _ _ _ Try.func72 rfl (fun s y => by kernel_rfl)
noncomputable def codec_Writer_put.h : Hnd Try.prog := { f := 72, h := _, ok := codec_Writer_put.ok, ent := ent Try.func72 (by kernel_rfl) rfl }

theorem codec_Writer_Uint.ok : HdlOk Try.prog 43 (hdlP 91 (.pair (.row (.int .u8) 5) (.flat .bool)) [(false, (.int .i64))] [] (fun s y => codec_Writer_Uint.f s y)) :=
  hdlP_ok [codec_Writer_put.h] [⟨1, 11, [.opn 0 91 2, .crow 0 0 (.int .u8) 5, .cl 0 1 .bool], [(.norm, [.opn 0 91 2, .crow 0 0 (.int .u8) 5, .cl 0 1 .bool])], 0⟩] _ _ _ _ _ Try.func43 rfl (fun s y => by kernel_rfl)
noncomputable def codec_Writer_Uint.h : Hnd Try.prog := { f := 43, h := _, ok := codec_Writer_Uint.ok, ent := ent Try.func43 (by kernel_rfl) rfl }

theorem codec_Writer_Bytes.ok : HdlOk Try.prog 45 (hdlP 91 (.pair (.row (.int .u8) 5) (.flat .bool)) [] [(false, (.row (.int .u8) 5)), (false, (.flat (.int .i64)))] (fun s y => codec_Writer_Bytes.f s)) :=
  hdlP_ok [bytes_Clone.h] [] _ _ _ _ _ Try.func45 rfl (fun s y => by kernel_rfl)
noncomputable def codec_Writer_Bytes.h : Hnd Try.prog := { f := 45, h := _, ok := codec_Writer_Bytes.ok, ent := ent Try.func45 (by kernel_rfl) rfl }

theorem usage_Sheet_Write.ok : HdlOk Try.prog 23 (hdlP 80 (.map ⟨87, 3, true, (.pair (.int .i64) (.pair (.int .i64) (.pair (.int .i64) (.pair (.int .i64) (.pair (.int .i64) (.int .i64)))))), false, (.int .i64)⟩) [] [(false, (.row (.int .u8) 5)), (false, (.flat (.int .i64)))] (fun s y => usage_Sheet_Write.f s)) :=
  hdlP_ok [usage_Sheet_Len.h, codec_Writer_Uint.h, usage_Sheet_all.h, codec_Writer_Bytes.h] [⟨0, 6, [.sl 20 false (.int .i64), .opn 2 91 2, .crow 2 0 (.int .u8) 5, .cl 2 1 .bool], [(.exit 0, [.opn 2 91 2, .crow 2 0 (.int .u8) 5, .cl 2 1 .bool])], 0⟩, ⟨0, 9, [.sl 38 false (.int .i64), .opn 2 91 2, .crow 2 0 (.int .u8) 5, .cl 2 1 .bool], [(.exit 2, [.opn 2 91 2, .crow 2 0 (.int .u8) 5, .cl 2 1 .bool])], 0⟩] _ _ _ _ _ Try.func23 rfl (fun s y => by kernel_rfl)
noncomputable def usage_Sheet_Write.h : Hnd Try.prog := { f := 23, h := _, ok := usage_Sheet_Write.ok, ent := ent Try.func23 (by kernel_rfl) rfl }

theorem purserlaw20_Act_lines.ok : HdlOk Try.prog 22 (hdl [(true, (.pair .bool (.pair (.arr .i64 3) (.slice (.pair (.int .i64) (.pair (.int .i64) (.int .i64)))))))] [.sl 0 false (.slice (.pair (.int .i64) (.pair (.int .i64) (.int .i64))))] (fun y => purserlaw20_Act_lines.f y)) :=
  hdl_ok [] [] _ _ _ Try.func22 rfl (by kernel_rfl) (by kernel_rfl) (fun y => by kernel_rfl)
noncomputable def purserlaw20_Act_lines.h : Hnd Try.prog := { f := 22, h := _, ok := purserlaw20_Act_lines.ok, ent := ent Try.func22 (by kernel_rfl) rfl, v := some (hdlV _ _ _), vok := by intro g h; obtain rfl := Option.some.inj h; exact hdlV_ok (by kernel_rfl) purserlaw20_Act_lines.ok }

noncomputable def codec_Reader_dead.h : Hnd Try.prog := { f := 76, h := _, ok := inl_ok [] [] 1 Try.func76 rfl, ent := ent Try.func76 (by kernel_rfl) rfl }

noncomputable def codec_Reader_take.h : Hnd Try.prog := { f := 77, h := _, ok := inlS_ok [] [⟨3, 7, [], [(.norm, [.sl 44 false .bool])], 0⟩, ⟨4, 0, [.sl 6 false (.int .u64), .sl 7 false (.int .i64), .blk 0 141 (.pair (.slice (.int .u8)) (.int .i64))], [(.ret, [.sl 4 false (.int .u64), .sl 5 false (.int .i64), .blk 0 141 (.pair (.slice (.int .u8)) (.int .i64))])], 0⟩] 2 Try.func77 rfl, ent := ent Try.func77 (by kernel_rfl) rfl }

theorem codec_Reader_Uint.ok : HdlOk Try.prog 47 (hdlP 141 (.flat (.pair (.slice (.int .u8)) (.int .i64))) [(false, (.int .i64))] [(false, (.flat (.int .i64)))] (fun s y => codec_Reader_Uint.f s y)) :=
  hdlP_ok [codec_Reader_dead.h, codec_Reader_take.h] [⟨3, 6, [], [(.norm, [.sl 20 false .bool])], 0⟩] _ _ _ _ _ Try.func47 rfl (fun s y => by kernel_rfl)
noncomputable def codec_Reader_Uint.h : Hnd Try.prog := { f := 47, h := _, ok := codec_Reader_Uint.ok, ent := ent Try.func47 (by kernel_rfl) rfl }

theorem codec_Reader_End.ok : HdlOk Try.prog 50 (hdlP 141 (.flat (.pair (.slice (.int .u8)) (.int .i64))) [] [(false, (.flat (.int .i64)))] (fun s y => codec_Reader_End.f s)) :=
  hdlP_ok [] [⟨3, 3, [], [(.norm, [.sl 6 false .bool])], 0⟩] _ _ _ _ _ Try.func50 rfl (fun s y => by kernel_rfl)
noncomputable def codec_Reader_End.h : Hnd Try.prog := { f := 50, h := _, ok := codec_Reader_End.ok, ent := ent Try.func50 (by kernel_rfl) rfl }

theorem purserref03_Reader_groups.ok : HdlOk Try.prog 78 (hdlP 103 (.flat (.pair .str (.int .i64))) [(false, (.int .i64))] [(false, (.flat (.int .u64))), (false, (.flat (.int .i64)))] (fun s y => purserref03_Reader_groups.f s y)) :=
  hdlP_ok [] [⟨0, 4, [.sl 6 false (.int .u64), .sl 7 false (.int .i64), .blk 0 103 (.pair .str (.int .i64))], [(.ret, [.sl 4 false (.int .u64), .sl 5 false (.int .i64), .blk 0 103 (.pair .str (.int .i64))])], 0⟩, ⟨3, 8, [], [(.norm, [.sl 45 false .bool])], 0⟩] _ _ _ _ _ Try.func78 rfl (fun s y => by kernel_rfl)
noncomputable def purserref03_Reader_groups.h : Hnd Try.prog := { f := 78, h := _, ok := purserref03_Reader_groups.ok, ent := ent Try.func78 (by kernel_rfl) rfl }

theorem purserref03_Reader_Uint.ok : HdlOk Try.prog 51 (hdlP 103 (.flat (.pair .str (.int .i64))) [(false, (.int .i64))] [(false, (.flat (.int .i64)))] (fun s y => purserref03_Reader_Uint.f s y)) :=
  hdlP_ok [purserref03_Reader_groups.h] [⟨3, 6, [], [(.norm, [.sl 29 false .bool])], 0⟩] _ _ _ _ _ Try.func51 rfl (fun s y => by kernel_rfl)
noncomputable def purserref03_Reader_Uint.h : Hnd Try.prog := { f := 51, h := _, ok := purserref03_Reader_Uint.ok, ent := ent Try.func51 (by kernel_rfl) rfl }

theorem purserref03_Reader_End.ok : HdlOk Try.prog 54 (hdlP 103 (.flat (.pair .str (.int .i64))) [] [(false, (.flat (.int .i64)))] (fun s y => purserref03_Reader_End.f s)) :=
  hdlP_ok [] [⟨3, 1, [], [(.norm, [.sl 14 false .bool])], 0⟩] _ _ _ _ _ Try.func54 rfl (fun s y => by kernel_rfl)
noncomputable def purserref03_Reader_End.h : Hnd Try.prog := { f := 54, h := _, ok := purserref03_Reader_End.ok, ent := ent Try.func54 (by kernel_rfl) rfl }

theorem purserref20_Right.ok : HdlOk Try.prog 52 (hdl [(true, (.arr .i64 6))] [.sl 0 false .bool] (fun y => purserref20_Right.f y)) :=
  hdl_ok [] [⟨3, 6, [], [(.norm, [.sl 29 false .bool])], 0⟩, ⟨0, 4, [], [], 7⟩] _ _ _ Try.func52 rfl (by kernel_rfl) (by kernel_rfl) (fun y => by kernel_rfl)
noncomputable def purserref20_Right.h : Hnd Try.prog := { f := 52, h := _, ok := purserref20_Right.ok, ent := ent Try.func52 (by kernel_rfl) rfl, v := some (hdlV _ _ _), vok := by intro g h; obtain rfl := Option.some.inj h; exact hdlV_ok (by kernel_rfl) purserref20_Right.ok }

theorem purserref20_order.ok : HdlOk Try.prog 53 (hdl [(true, (.arr .i64 6)), (true, (.arr .i64 6))] [.sl 0 false (.int .i64)] (fun y => purserref20_order.f y.1 y.2)) :=
  hdl_ok [] [⟨0, 2, [], [], 6⟩] _ _ _ Try.func53 rfl (by kernel_rfl) (by kernel_rfl) (fun y => by kernel_rfl)
noncomputable def purserref20_order.h : Hnd Try.prog := { f := 53, h := _, ok := purserref20_order.ok, ent := ent Try.func53 (by kernel_rfl) rfl, v := some (hdlV _ _ _), vok := by intro g h; obtain rfl := Option.some.inj h; exact hdlV_ok (by kernel_rfl) purserref20_order.ok }

noncomputable def codec_Read.h : Hnd Try.prog := { f := 46, h := _, ok := inl_ok [bytes_Clone.h] [] 1 Try.func46 rfl, ent := ent Try.func46 (by kernel_rfl) rfl }

noncomputable def usage_Read.h : Hnd Try.prog := { f := 25, h := _, ok := inl_ok [usage_New.h, usage_Row_key.h, codec_Read.h, codec_Reader_Uint.h, usage_Row_place.h, usage_Row_order.h, codec_Reader_End.h] [⟨0, 6, [.sl 7 false .bool, .sl 17 false (.int .i64), .blk 1 141 (.pair (.slice (.int .u8)) (.int .i64)), .mp 2 ⟨87, 3, true, (.pair (.int .i64) (.pair (.int .i64) (.pair (.int .i64) (.pair (.int .i64) (.pair (.int .i64) (.int .i64)))))), false, (.int .i64)⟩, .blk 4 87 (.pair (.int .i64) (.pair (.int .i64) (.pair (.int .i64) (.pair (.int .i64) (.pair (.int .i64) (.int .i64))))))], [(.exit 0, [.sl 7 false .bool, .blk 1 141 (.pair (.slice (.int .u8)) (.int .i64)), .mp 2 ⟨87, 3, true, (.pair (.int .i64) (.pair (.int .i64) (.pair (.int .i64) (.pair (.int .i64) (.pair (.int .i64) (.int .i64)))))), false, (.int .i64)⟩, .blk 4 87 (.pair (.int .i64) (.pair (.int .i64) (.pair (.int .i64) (.pair (.int .i64) (.pair (.int .i64) (.int .i64))))))])], 0⟩, ⟨3, 14, [], [(.norm, [.sl 7 false .bool])], 0⟩, ⟨0, 10, [], [], 7⟩, ⟨3, 18, [.blk 1 141 (.pair (.slice (.int .u8)) (.int .i64))], [(.norm, [.sl 73 false .bool, .blk 1 141 (.pair (.slice (.int .u8)) (.int .i64))])], 0⟩] 1 Try.func25 rfl, ent := ent Try.func25 (by kernel_rfl) rfl }

noncomputable def purserref20_Read.h : Hnd Try.prog := { f := 26, h := _, ok := inl_ok [purserref03_Reader_Uint.h, purserref20_Right.h, purserref20_order.h, purserref03_Reader_End.h] [⟨3, 6, [], [(.norm, [.sl 27 false .bool])], 0⟩, ⟨0, 6, [.sl 7 false .bool, .sl 8 false (.int .i64), .blk 5 103 (.pair .str (.int .i64)), .opn 6 106 1, .crow 6 0 (.arr .i64 6) 109], [(.exit 0, [.sl 7 false .bool, .blk 5 103 (.pair .str (.int .i64)), .opn 6 106 1, .crow 6 0 (.arr .i64 6) 109])], 0⟩, ⟨3, 13, [], [(.norm, [.sl 7 false .bool])], 0⟩, ⟨0, 10, [], [], 7⟩] 1 Try.func26 rfl, ent := ent Try.func26 (by kernel_rfl) rfl }

theorem purserlaw20_UsageReads.ok : HdlOk Try.prog 7 (hdl [(false, (.slice (.int .u8)))] [.sl 0 false .bool] (fun y => purserlaw20_UsageReads.f y)) :=
  hdl_ok [purserlaw20_uses.h, usage_Sheet_Write.h, usage_Read.h, purserref20_Read.h] [⟨3, 4, [], [(.norm, [.sl 32 false .bool])], 0⟩, ⟨3, 9, [], [(.norm, [.sl 2 false .bool])], 0⟩] _ _ _ Try.func7 rfl (by kernel_rfl) (by kernel_rfl) (fun y => by kernel_rfl)
noncomputable def purserlaw20_UsageReads.h : Hnd Try.prog := { f := 7, h := _, ok := purserlaw20_UsageReads.ok, ent := ent Try.func7 (by kernel_rfl) rfl, v := some (hdlV _ _ _), vok := by intro g h; obtain rfl := Option.some.inj h; exact hdlV_ok (by kernel_rfl) purserlaw20_UsageReads.ok }

theorem purserlaw20_UsageMany.ok : HdlOk Try.prog 5 (hdl [(false, (.int .i64)), (false, (.int .i64))] [.sl 0 false .bool] (fun y => purserlaw20_UsageMany.f y.1 y.2)) :=
  hdl_ok [usage_New.h, purserlaw20_uses.h, usage_Sheet_Add.h, usage_Sheet_Len.h] [⟨0, 6, [.sl 6 false (.int .i64), .opn 1 80 1, .cmap 1 0 ⟨87, 3, true, (.pair (.int .i64) (.pair (.int .i64) (.pair (.int .i64) (.pair (.int .i64) (.pair (.int .i64) (.int .i64)))))), false, (.int .i64)⟩], [(.ret, [.sl 4 false .bool, .opn 1 80 1, .cmap 1 0 ⟨87, 3, true, (.pair (.int .i64) (.pair (.int .i64) (.pair (.int .i64) (.pair (.int .i64) (.pair (.int .i64) (.int .i64)))))), false, (.int .i64)⟩]), (.exit 0, [.opn 1 80 1, .cmap 1 0 ⟨87, 3, true, (.pair (.int .i64) (.pair (.int .i64) (.pair (.int .i64) (.pair (.int .i64) (.pair (.int .i64) (.int .i64)))))), false, (.int .i64)⟩])], 0⟩, ⟨3, 14, [.opn 1 80 1, .cmap 1 0 ⟨87, 3, true, (.pair (.int .i64) (.pair (.int .i64) (.pair (.int .i64) (.pair (.int .i64) (.pair (.int .i64) (.int .i64)))))), false, (.int .i64)⟩], [(.norm, [.sl 4 false .bool, .opn 1 80 1, .cmap 1 0 ⟨87, 3, true, (.pair (.int .i64) (.pair (.int .i64) (.pair (.int .i64) (.pair (.int .i64) (.pair (.int .i64) (.int .i64)))))), false, (.int .i64)⟩])], 0⟩] _ _ _ Try.func5 rfl (by kernel_rfl) (by kernel_rfl) (fun y => by kernel_rfl)
noncomputable def purserlaw20_UsageMany.h : Hnd Try.prog := { f := 5, h := _, ok := purserlaw20_UsageMany.ok, ent := ent Try.func5 (by kernel_rfl) rfl, v := some (hdlV _ _ _), vok := by intro g h; obtain rfl := Option.some.inj h; exact hdlV_ok (by kernel_rfl) purserlaw20_UsageMany.ok, c := true, cok := by intro _ g h; obtain rfl := Option.some.inj h; exact hdlVC_ok (by kernel_rfl) (by kernel_rfl) purserlaw20_UsageMany.ok }

end Go.Proofs.Ytijpigojhildgaa.Y
