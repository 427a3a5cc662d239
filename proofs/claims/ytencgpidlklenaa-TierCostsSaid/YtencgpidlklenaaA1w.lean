/- The program's functions compute what the plain functions tell, whatever the input; no statement of its own. -/
import Derived.Test.YtencgpidlklenaaProg
import Derived.Test.YtencgpidlklenaaAm12
import Derived.Test.YtencgpidlklenaaA1d
import Derived.KernelRfl
namespace Go.Proofs.Ytencgpidlklenaa.Y
open Go.Am Go.Vk
set_option maxRecDepth 100000
set_option linter.unusedVariables false
theorem ent {f : FuncId} {fn : Func} {c : Code} (hf : Try.prog.funcs[f]? = some fn) (hn : (fn.name == "runtime.NumGoroutine") = false) (hb : fn.body = some c) : ∀ args w, (callFunc f args).run Try.prog w = .ok (.enter f args) w := Go.MuLone.run_callFunc_enter hf hn hb
theorem tariff_within.ok : HdlOk Try.prog 65 (hdl [(false, (.int .i64)), (false, (.int .i64)), (false, (.int .i64))] [.sl 0 false .bool] (fun y => tariff_within.f y.1 y.2.1 y.2.2)) :=
  hdl_ok [] [⟨3, 1, [], [(.norm, [.sl 6 false .bool])], 0⟩] _ _ _ Try.func65 rfl (by kernel_rfl) (by kernel_rfl) (fun y => by kernel_rfl)
noncomputable def tariff_within.h : Hnd Try.prog := { f := 65, h := _, ok := tariff_within.ok, ent := ent Try.func65 (by kernel_rfl) rfl, v := some (hdlV _ _ _), vok := by intro g h; obtain rfl := Option.some.inj h; exact hdlV_ok (by kernel_rfl) tariff_within.ok }

theorem tariff_tiers.ok : HdlOk Try.prog 66 (hdl [(false, (.slice (.pair (.int .i64) (.int .i64))))] [.sl 0 false (.int .i64)] (fun y => tariff_tiers.f y)) :=
  hdl_ok [tariff_within.h] [⟨0, 3, [.sl 3 false (.int .i64), .sl 9 false (.int .i64)], [(.ret, [.sl 2 false (.int .i64)]), (.exit 0, [])], 0⟩, ⟨3, 8, [], [(.norm, [.sl 24 false .bool])], 0⟩, ⟨3, 9, [], [(.norm, [.sl 24 false .bool])], 0⟩] _ _ _ Try.func66 rfl (by kernel_rfl) (by kernel_rfl) (fun y => by kernel_rfl)
noncomputable def tariff_tiers.h : Hnd Try.prog := { f := 66, h := _, ok := tariff_tiers.ok, ent := ent Try.func66 (by kernel_rfl) rfl, v := some (hdlV _ _ _), vok := by intro g h; obtain rfl := Option.some.inj h; exact hdlV_ok (by kernel_rfl) tariff_tiers.ok }

theorem tariff_Check.ok : HdlOk Try.prog 43 (hdl [(true, (.pair (.int .i64) (.pair (.int .i64) (.pair (.int .i64) (.slice (.pair (.int .i64) (.int .i64)))))))] [.sl 0 false (.int .i64)] (fun y => tariff_Check.f y)) :=
  hdl_ok [tariff_within.h, tariff_tiers.h] [⟨3, 1, [], [(.norm, [.sl 3 false .bool])], 0⟩, ⟨3, 3, [], [(.norm, [.sl 14 false .bool])], 0⟩] _ _ _ Try.func43 rfl (by kernel_rfl) (by kernel_rfl) (fun y => by kernel_rfl)
noncomputable def tariff_Check.h : Hnd Try.prog := { f := 43, h := _, ok := tariff_Check.ok, ent := ent Try.func43 (by kernel_rfl) rfl, v := some (hdlV _ _ _), vok := by intro g h; obtain rfl := Option.some.inj h; exact hdlV_ok (by kernel_rfl) tariff_Check.ok }

noncomputable def tier_Index_1.h : Hnd Try.prog := { f := 47, h := _, ok := inl_ok [] [⟨3, 1, [], [(.norm, [.sl 3 false .bool])], 0⟩] 2 Try.func47 rfl, ent := ent Try.func47 (by kernel_rfl) rfl }

noncomputable def api_Tier.h : Hnd Try.prog := { f := 46, h := _, ok := inl_ok [tier_Index_1.h] [⟨0, 2, [.sl 8 false (.int .i64)], [(.ret, [.sl 4 false (.int .i64)]), (.exit 0, [])], 0⟩] 2 Try.func46 rfl, ent := ent Try.func46 (by kernel_rfl) rfl }

theorem tier_Index.ok : HdlOk Try.prog 18 (hdl [(true, (.pair (.int .i64) (.pair (.int .i64) (.pair (.int .i64) (.slice (.pair (.int .i64) (.int .i64))))))), (false, (.int .i64))] [.sl 0 false (.int .i64)] (fun y => tier_Index.f y.1 y.2)) :=
  hdl_ok [tariff_Check.h, api_Tier.h] [⟨3, 1, [], [(.norm, [.sl 11 false .bool])], 0⟩] _ _ _ Try.func18 rfl (by kernel_rfl) (by kernel_rfl) (fun y => by kernel_rfl)
noncomputable def tier_Index.h : Hnd Try.prog := { f := 18, h := _, ok := tier_Index.ok, ent := ent Try.func18 (by kernel_rfl) rfl, v := some (hdlV _ _ _), vok := by intro g h; obtain rfl := Option.some.inj h; exact hdlV_ok (by kernel_rfl) tier_Index.ok }

theorem tier_line.ok : HdlOk Try.prog 44 (hdl [(true, (.pair (.int .i64) (.pair (.int .i64) (.pair (.int .i64) (.slice (.pair (.int .i64) (.int .i64))))))), (false, (.int .i64)), (false, (.int .i64))] [.sl 0 true (.pair (.int .i64) (.pair (.int .i64) (.int .i64)))] (fun y => tier_line.f y.1 y.2.1 y.2.2)) :=
  hdl_ok [] [] _ _ _ Try.func44 rfl (by kernel_rfl) (by kernel_rfl) (fun y => by kernel_rfl)
noncomputable def tier_line.h : Hnd Try.prog := { f := 44, h := _, ok := tier_line.ok, ent := ent Try.func44 (by kernel_rfl) rfl, v := some (hdlV _ _ _), vok := by intro g h; obtain rfl := Option.some.inj h; exact hdlV_ok (by kernel_rfl) tier_line.ok }

theorem tier_Split.ok : HdlOk Try.prog 14 (hdl [(true, (.pair (.int .i64) (.pair (.int .i64) (.pair (.int .i64) (.slice (.pair (.int .i64) (.int .i64))))))), (false, (.int .i64)), (false, (.int .i64))] [.row 0 (.pair (.int .i64) (.pair (.int .i64) (.int .i64))) 38, .sl 1 false (.int .i64)] (fun y => tier_Split.f y.1 y.2.1 y.2.2)) :=
  hdl_ok [tier_Index.h, tariff_Check.h, tier_line.h] [⟨3, 1, [], [(.norm, [.sl 30 false .bool])], 0⟩, ⟨3, 3, [], [(.norm, [.sl 37 false .bool])], 0⟩, ⟨0, 6, [.sl 1 false (.int .i64), .sl 2 false (.int .i64), .row 8 (.pair (.int .i64) (.pair (.int .i64) (.int .i64))) 38], [(.exit 0, [.row 8 (.pair (.int .i64) (.pair (.int .i64) (.int .i64))) 38])], 0⟩, ⟨1, 61, [], [(.norm, [.sl 10 false (.int .i64)])], 0⟩] _ _ _ Try.func14 rfl (by kernel_rfl) (by kernel_rfl) (fun y => by kernel_rfl)
noncomputable def tier_Split.h : Hnd Try.prog := { f := 14, h := _, ok := tier_Split.ok, ent := ent Try.func14 (by kernel_rfl) rfl }

theorem purserlaw10_two.ok : HdlOk Try.prog 45 (hdl [(false, (.int .i64))] [.sl 0 true (.pair (.int .i64) (.pair (.int .i64) (.pair (.int .i64) (.slice (.pair (.int .i64) (.int .i64))))))] (fun y => purserlaw10_two.f y)) :=
  hdl_ok [] [] _ _ _ Try.func45 rfl (by kernel_rfl) (by kernel_rfl) (fun y => by kernel_rfl)
noncomputable def purserlaw10_two.h : Hnd Try.prog := { f := 45, h := _, ok := purserlaw10_two.ok, ent := ent Try.func45 (by kernel_rfl) rfl, v := some (hdlV _ _ _), vok := by intro g h; obtain rfl := Option.some.inj h; exact hdlV_ok (by kernel_rfl) purserlaw10_two.ok }

theorem purserlaw10_tiers.ok : HdlOk Try.prog 16 (hdl [] [.sl 0 false .bool] (fun y => purserlaw10_tiers.f)) :=
  hdl_ok [tier_Split.h, purserlaw10_two.h] [⟨3, 3, [], [(.norm, [.sl 0 false .bool])], 0⟩] _ _ _ Try.func16 rfl (by kernel_rfl) (by kernel_rfl) (fun y => by kernel_rfl)
noncomputable def purserlaw10_tiers.h : Hnd Try.prog := { f := 16, h := _, ok := purserlaw10_tiers.ok, ent := ent Try.func16 (by kernel_rfl) rfl, v := some (hdlV _ _ _), vok := by intro g h; obtain rfl := Option.some.inj h; exact hdlV_ok (by kernel_rfl) purserlaw10_tiers.ok }

theorem purserref10_Same.ok : HdlOk Try.prog 17 (hdl [(false, (.slice (.pair (.int .i64) (.pair (.int .i64) (.int .i64))))), (false, (.slice (.pair (.int .i64) (.pair (.int .i64) (.int .i64)))))] [.sl 0 false .bool] (fun y => purserref10_Same.f y.1 y.2)) :=
  hdl_ok [] [⟨0, 4, [.sl 5 false (.int .i64)], [(.ret, [.sl 4 false .bool]), (.exit 0, [])], 0⟩] _ _ _ Try.func17 rfl (by kernel_rfl) (by kernel_rfl) (fun y => by kernel_rfl)
noncomputable def purserref10_Same.h : Hnd Try.prog := { f := 17, h := _, ok := purserref10_Same.ok, ent := ent Try.func17 (by kernel_rfl) rfl, v := some (hdlV _ _ _), vok := by intro g h; obtain rfl := Option.some.inj h; exact hdlV_ok (by kernel_rfl) purserref10_Same.ok }

theorem purserref09_Same.ok : HdlOk Try.prog 20 (hdl [(true, (.pair (.int .i64) (.pair (.int .i64) (.pair (.int .i64) (.slice (.pair (.int .i64) (.int .i64))))))), (true, (.pair (.int .i64) (.pair (.int .i64) (.pair (.int .i64) (.slice (.pair (.int .i64) (.int .i64)))))))] [.sl 0 false .bool] (fun y => purserref09_Same.f y.1 y.2)) :=
  hdl_ok [] [⟨3, 1, [], [(.norm, [.sl 33 false .bool])], 0⟩, ⟨0, 4, [.sl 5 false (.int .i64)], [(.ret, [.sl 4 false .bool]), (.exit 0, [])], 0⟩] _ _ _ Try.func20 rfl (by kernel_rfl) (by kernel_rfl) (fun y => by kernel_rfl)
noncomputable def purserref09_Same.h : Hnd Try.prog := { f := 20, h := _, ok := purserref09_Same.ok, ent := ent Try.func20 (by kernel_rfl) rfl, v := some (hdlV _ _ _), vok := by intro g h; obtain rfl := Option.some.inj h; exact hdlV_ok (by kernel_rfl) purserref09_Same.ok }

theorem purserlaw10_tame.ok : HdlOk Try.prog 13 (hdl [(true, (.pair (.int .i64) (.pair (.int .i64) (.pair (.int .i64) (.slice (.pair (.int .i64) (.int .i64)))))))] [.sl 0 true (.pair (.int .i64) (.pair (.int .i64) (.pair (.int .i64) (.slice (.pair (.int .i64) (.int .i64))))))] (fun y => purserlaw10_tame.f y)) :=
  hdl_ok [] [] _ _ _ Try.func13 rfl (by kernel_rfl) (by kernel_rfl) (fun y => by kernel_rfl)
noncomputable def purserlaw10_tame.h : Hnd Try.prog := { f := 13, h := _, ok := purserlaw10_tame.ok, ent := ent Try.func13 (by kernel_rfl) rfl, v := some (hdlV _ _ _), vok := by intro g h; obtain rfl := Option.some.inj h; exact hdlV_ok (by kernel_rfl) purserlaw10_tame.ok }

theorem purserref09_Check.ok : HdlOk Try.prog 21 (hdl [(true, (.pair (.int .i64) (.pair (.int .i64) (.pair (.int .i64) (.slice (.pair (.int .i64) (.int .i64)))))))] [.sl 0 false (.int .i64)] (fun y => purserref09_Check.f y)) :=
  hdl_ok [] [⟨3, 1, [], [(.norm, [.sl 23 false .bool])], 0⟩, ⟨3, 3, [], [(.norm, [.sl 31 false .bool])], 0⟩, ⟨3, 5, [], [(.norm, [.sl 41 false .bool])], 0⟩, ⟨0, 9, [.sl 3 false (.int .i64), .sl 4 false (.int .i64)], [(.ret, [.sl 2 false (.int .i64)]), (.exit 0, [])], 0⟩, ⟨3, 12, [], [(.norm, [.sl 61 false .bool])], 0⟩, ⟨1, 67, [], [(.ret, [.sl 2 false (.int .i64)]), (.norm, [])], 0⟩, ⟨3, 17, [], [(.norm, [.sl 79 false .bool])], 0⟩] _ _ _ Try.func21 rfl (by kernel_rfl) (by kernel_rfl) (fun y => by kernel_rfl)
noncomputable def purserref09_Check.h : Hnd Try.prog := { f := 21, h := _, ok := purserref09_Check.ok, ent := ent Try.func21 (by kernel_rfl) rfl, v := some (hdlV _ _ _), vok := by intro g h; obtain rfl := Option.some.inj h; exact hdlV_ok (by kernel_rfl) purserref09_Check.ok }

theorem purserref10_Index.ok : HdlOk Try.prog 19 (hdl [(true, (.pair (.int .i64) (.pair (.int .i64) (.pair (.int .i64) (.slice (.pair (.int .i64) (.int .i64))))))), (false, (.int .i64))] [.sl 0 false (.int .i64)] (fun y => purserref10_Index.f y.1 y.2)) :=
  hdl_ok [purserref09_Check.h] [⟨3, 1, [], [(.norm, [.sl 12 false .bool])], 0⟩, ⟨0, 4, [.sl 5 false (.int .i64)], [(.ret, [.sl 4 false (.int .i64)]), (.exit 0, [])], 0⟩, ⟨3, 6, [], [(.norm, [.sl 36 false .bool])], 0⟩] _ _ _ Try.func19 rfl (by kernel_rfl) (by kernel_rfl) (fun y => by kernel_rfl)
noncomputable def purserref10_Index.h : Hnd Try.prog := { f := 19, h := _, ok := purserref10_Index.ok, ent := ent Try.func19 (by kernel_rfl) rfl, v := some (hdlV _ _ _), vok := by intro g h; obtain rfl := Option.some.inj h; exact hdlV_ok (by kernel_rfl) purserref10_Index.ok }

theorem purserref10_Split.ok : HdlOk Try.prog 15 (hdl [(true, (.pair (.int .i64) (.pair (.int .i64) (.pair (.int .i64) (.slice (.pair (.int .i64) (.int .i64))))))), (false, (.int .i64)), (false, (.int .i64))] [.row 0 (.pair (.int .i64) (.pair (.int .i64) (.int .i64))) 38, .sl 1 false (.int .i64)] (fun y => purserref10_Split.f y.1 y.2.1 y.2.2)) :=
  hdl_ok [purserref10_Index.h, purserref09_Check.h] [⟨3, 1, [], [(.norm, [.sl 31 false .bool])], 0⟩, ⟨0, 10, [.row 9 (.pair (.int .i64) (.pair (.int .i64) (.int .i64))) 38, .sl 10 false (.int .i64)], [(.exit 0, [.row 9 (.pair (.int .i64) (.pair (.int .i64) (.int .i64))) 38])], 0⟩, ⟨1, 64, [], [(.norm, [.sl 11 false (.int .i64)])], 0⟩, ⟨1, 80, [], [(.norm, [.sl 12 false (.int .i64)])], 0⟩, ⟨1, 91, [.row 9 (.pair (.int .i64) (.pair (.int .i64) (.int .i64))) 38], [(.norm, [.row 9 (.pair (.int .i64) (.pair (.int .i64) (.int .i64))) 38])], 0⟩] _ _ _ Try.func15 rfl (by kernel_rfl) (by kernel_rfl) (fun y => by kernel_rfl)
noncomputable def purserref10_Split.h : Hnd Try.prog := { f := 15, h := _, ok := purserref10_Split.ok, ent := ent Try.func15 (by kernel_rfl) rfl }

theorem arith_size.ok : HdlOk Try.prog 68 (hdl [(false, (.int .i64))] [.sl 0 false (.int .u64)] (fun y => arith_size.f y)) :=
  hdl_ok [] [] _ _ _ Try.func68 rfl (by kernel_rfl) (by kernel_rfl) (fun y => by kernel_rfl)
noncomputable def arith_size.h : Hnd Try.prog := { f := 68, h := _, ok := arith_size.ok, ent := ent Try.func68 (by kernel_rfl) rfl, v := some (hdlV _ _ _), vok := by intro g h; obtain rfl := Option.some.inj h; exact hdlV_ok (by kernel_rfl) arith_size.ok }

theorem bits_Mul64.ok : HdlOk Try.prog 67 (hdl [(false, (.int .u64)), (false, (.int .u64))] [.sl 0 false (.int .u64), .sl 1 false (.int .u64)] (fun y => bits_Mul64.f y.1 y.2)) :=
  hdl_ok [] [] _ _ _ Try.func67 rfl (by kernel_rfl) (by kernel_rfl) (fun y => by kernel_rfl)
noncomputable def bits_Mul64.h : Hnd Try.prog := { f := 67, h := _, ok := bits_Mul64.ok, ent := ent Try.func67 (by kernel_rfl) rfl, v := some (hdlV _ _ _), vok := by intro g h; obtain rfl := Option.some.inj h; exact hdlV_ok (by kernel_rfl) bits_Mul64.ok }

theorem arith_Mul.ok : HdlOk Try.prog 48 (hdl [(false, (.int .i64)), (false, (.int .i64))] [.sl 0 false (.int .i64), .sl 1 false .bool] (fun y => arith_Mul.f y.1 y.2)) :=
  hdl_ok [bits_Mul64.h, arith_size.h] [⟨3, 5, [], [(.norm, [.sl 25 false .bool])], 0⟩] _ _ _ Try.func48 rfl (by kernel_rfl) (by kernel_rfl) (fun y => by kernel_rfl)
noncomputable def arith_Mul.h : Hnd Try.prog := { f := 48, h := _, ok := arith_Mul.ok, ent := ent Try.func48 (by kernel_rfl) rfl, v := some (hdlV _ _ _), vok := by intro g h; obtain rfl := Option.some.inj h; exact hdlV_ok (by kernel_rfl) arith_Mul.ok }

theorem arith_Sum.ok : HdlOk Try.prog 49 (hdl [(false, (.slice (.int .i64)))] [.sl 0 false (.int .i64), .sl 1 false .bool] (fun y => arith_Sum.f y)) :=
  hdl_ok [] [⟨0, 3, [.sl 4 false (.int .u64), .sl 5 false (.int .u64), .sl 11 false (.int .i64)], [(.exit 0, [.sl 4 false (.int .u64), .sl 5 false (.int .u64)])], 0⟩] _ _ _ Try.func49 rfl (by kernel_rfl) (by kernel_rfl) (fun y => by kernel_rfl)
noncomputable def arith_Sum.h : Hnd Try.prog := { f := 49, h := _, ok := arith_Sum.ok, ent := ent Try.func49 (by kernel_rfl) rfl, v := some (hdlV _ _ _), vok := by intro g h; obtain rfl := Option.some.inj h; exact hdlV_ok (by kernel_rfl) arith_Sum.ok }

theorem tier_Cost.ok : HdlOk Try.prog 22 (hdl [(false, (.slice (.pair (.int .i64) (.pair (.int .i64) (.int .i64)))))] [.sl 0 false (.int .i64), .sl 1 false .bool] (fun y => tier_Cost.f y)) :=
  hdl_ok [arith_Mul.h, arith_Sum.h] [⟨0, 3, [.row 4 (.int .i64) 3, .sl 11 false (.int .i64)], [(.ret, [.sl 2 false (.int .i64), .sl 3 false .bool]), (.exit 0, [.row 4 (.int .i64) 3])], 0⟩] _ _ _ Try.func22 rfl (by kernel_rfl) (by kernel_rfl) (fun y => by kernel_rfl)
noncomputable def tier_Cost.h : Hnd Try.prog := { f := 22, h := _, ok := tier_Cost.ok, ent := ent Try.func22 (by kernel_rfl) rfl, v := some (hdlV _ _ _), vok := by intro g h; obtain rfl := Option.some.inj h; exact hdlV_ok (by kernel_rfl) tier_Cost.ok }

theorem purserlaw10_TierRises.ok : HdlOk Try.prog 5 (hdl [(true, (.pair (.int .i64) (.pair (.int .i64) (.pair (.int .i64) (.slice (.pair (.int .i64) (.int .i64))))))), (false, (.int .i64)), (false, (.int .i64))] [.sl 0 false .bool] (fun y => purserlaw10_TierRises.f y.1 y.2.1 y.2.2)) :=
  hdl_ok [purserlaw10_tame.h, tier_Split.h, purserlaw10_tiers.h, tier_Index.h, purserref09_Check.h, tier_Cost.h] [⟨3, 5, [], [(.norm, [.sl 56 false .bool])], 0⟩, ⟨3, 8, [], [(.norm, [.sl 6 false .bool])], 0⟩, ⟨0, 11, [.sl 11 false (.int .i64), .sl 12 false (.int .i64)], [(.exit 0, [.sl 11 false (.int .i64)])], 0⟩, ⟨3, 15, [], [(.norm, [.sl 6 false .bool])], 0⟩] _ _ _ Try.func5 rfl (by kernel_rfl) (by kernel_rfl) (fun y => by kernel_rfl)
noncomputable def purserlaw10_TierRises.h : Hnd Try.prog := { f := 5, h := _, ok := purserlaw10_TierRises.ok, ent := ent Try.func5 (by kernel_rfl) rfl, v := some (hdlV _ _ _), vok := by intro g h; obtain rfl := Option.some.inj h; exact hdlV_ok (by kernel_rfl) purserlaw10_TierRises.ok }

theorem purserlaw10_few.ok : HdlOk Try.prog 23 (hdl [(false, (.slice (.pair (.int .i64) (.pair (.int .i64) (.int .i64)))))] [.row 0 (.pair (.int .i64) (.pair (.int .i64) (.int .i64))) 38] (fun y => purserlaw10_few.f y)) :=
  hdl_ok [] [] _ _ _ Try.func23 rfl (by kernel_rfl) (by kernel_rfl) (fun y => by kernel_rfl)
noncomputable def purserlaw10_few.h : Hnd Try.prog := { f := 23, h := _, ok := purserlaw10_few.ok, ent := ent Try.func23 (by kernel_rfl) rfl }

theorem tier_Blocks.ok : HdlOk Try.prog 25 (hdl [(false, (.slice (.pair (.int .i64) (.pair (.int .i64) (.int .i64)))))] [.sl 0 false (.int .i64), .sl 1 false .bool] (fun y => tier_Blocks.f y)) :=
  hdl_ok [arith_Sum.h] [⟨0, 3, [.row 4 (.int .i64) 3, .sl 9 false (.int .i64)], [(.exit 0, [.row 4 (.int .i64) 3])], 0⟩] _ _ _ Try.func25 rfl (by kernel_rfl) (by kernel_rfl) (fun y => by kernel_rfl)
noncomputable def tier_Blocks.h : Hnd Try.prog := { f := 25, h := _, ok := tier_Blocks.ok, ent := ent Try.func25 (by kernel_rfl) rfl, v := some (hdlV _ _ _), vok := by intro g h; obtain rfl := Option.some.inj h; exact hdlV_ok (by kernel_rfl) tier_Blocks.ok }

theorem purserref01_zero.ok : HdlOk Try.prog 70 (hdl [(true, (.pair (.arr .u64 10) .bool))] [.sl 0 false .bool] (fun y => purserref01_zero.f y)) :=
  hdl_ok [] [] _ _ _ Try.func70 rfl (by kernel_rfl) (by kernel_rfl) (fun y => by kernel_rfl)
noncomputable def purserref01_zero.h : Hnd Try.prog := { f := 70, h := _, ok := purserref01_zero.ok, ent := ent Try.func70 (by kernel_rfl) rfl, v := some (hdlV _ _ _), vok := by intro g h; obtain rfl := Option.some.inj h; exact hdlV_ok (by kernel_rfl) purserref01_zero.ok }

theorem purserref01_add.ok : HdlOk Try.prog 71 (hdl [(true, (.pair (.arr .u64 10) .bool)), (true, (.pair (.arr .u64 10) .bool))] [.sl 0 true (.pair (.arr .u64 10) .bool)] (fun y => purserref01_add.f y.1 y.2)) :=
  hdl_ok [] [⟨3, 5, [], [(.norm, [.sl 7 false (.int .u64)])], 0⟩, ⟨0, 3, [], [], 11⟩] _ _ _ Try.func71 rfl (by kernel_rfl) (by kernel_rfl) (fun y => by kernel_rfl)
noncomputable def purserref01_add.h : Hnd Try.prog := { f := 71, h := _, ok := purserref01_add.ok, ent := ent Try.func71 (by kernel_rfl) rfl, v := some (hdlV _ _ _), vok := by intro g h; obtain rfl := Option.some.inj h; exact hdlV_ok (by kernel_rfl) purserref01_add.ok }

theorem purserref01_sub.ok : HdlOk Try.prog 73 (hdl [(true, (.pair (.arr .u64 10) .bool)), (true, (.pair (.arr .u64 10) .bool))] [.sl 0 true (.pair (.arr .u64 10) .bool)] (fun y => purserref01_sub.f y.1 y.2)) :=
  hdl_ok [] [⟨3, 5, [], [(.norm, [.sl 7 false (.int .u64)])], 0⟩, ⟨3, 7, [], [(.norm, [.sl 5 false (.int .u64)])], 0⟩, ⟨0, 3, [], [], 11⟩] _ _ _ Try.func73 rfl (by kernel_rfl) (by kernel_rfl) (fun y => by kernel_rfl)
noncomputable def purserref01_sub.h : Hnd Try.prog := { f := 73, h := _, ok := purserref01_sub.ok, ent := ent Try.func73 (by kernel_rfl) rfl, v := some (hdlV _ _ _), vok := by intro g h; obtain rfl := Option.some.inj h; exact hdlV_ok (by kernel_rfl) purserref01_sub.ok }

theorem purserref01_less.ok : HdlOk Try.prog 72 (hdl [(true, (.pair (.arr .u64 10) .bool)), (true, (.pair (.arr .u64 10) .bool))] [.sl 0 false .bool] (fun y => purserref01_less.f y.1 y.2)) :=
  hdl_ok [] [⟨0, 2, [], [], 11⟩] _ _ _ Try.func72 rfl (by kernel_rfl) (by kernel_rfl) (fun y => by kernel_rfl)
noncomputable def purserref01_less.h : Hnd Try.prog := { f := 72, h := _, ok := purserref01_less.ok, ent := ent Try.func72 (by kernel_rfl) rfl, v := some (hdlV _ _ _), vok := by intro g h; obtain rfl := Option.some.inj h; exact hdlV_ok (by kernel_rfl) purserref01_less.ok }

theorem purserref01_Of.ok : HdlOk Try.prog 50 (hdl [(false, (.int .i64))] [.sl 0 true (.pair (.arr .u64 10) .bool)] (fun y => purserref01_Of.f y)) :=
  hdl_ok [] [⟨1, 8, [.blk 1 82 (.pair (.arr .u64 10) .bool)], [(.norm, [.sl 4 false (.int .u64), .blk 1 82 (.pair (.arr .u64 10) .bool)])], 0⟩] _ _ _ Try.func50 rfl (by kernel_rfl) (by kernel_rfl) (fun y => by kernel_rfl)
noncomputable def purserref01_Of.h : Hnd Try.prog := { f := 50, h := _, ok := purserref01_Of.ok, ent := ent Try.func50 (by kernel_rfl) rfl, v := some (hdlV _ _ _), vok := by intro g h; obtain rfl := Option.some.inj h; exact hdlV_ok (by kernel_rfl) purserref01_Of.ok }

theorem purserref01_Times.ok : HdlOk Try.prog 51 (hdl [(true, (.pair (.arr .u64 10) .bool)), (true, (.pair (.arr .u64 10) .bool))] [.sl 0 true (.pair (.arr .u64 10) .bool)] (fun y => purserref01_Times.f y.1 y.2)) :=
  hdl_ok [purserref01_zero.h] [⟨3, 9, [], [(.norm, [.sl 9 false (.int .u64)])], 0⟩, ⟨3, 13, [.blk 3 82 (.pair (.arr .u64 10) .bool)], [(.norm, [.blk 3 82 (.pair (.arr .u64 10) .bool)])], 0⟩, ⟨0, 7, [], [], 6⟩, ⟨0, 3, [], [], 6⟩] _ _ _ Try.func51 rfl (by kernel_rfl) (by kernel_rfl) (fun y => by kernel_rfl)
noncomputable def purserref01_Times.h : Hnd Try.prog := { f := 51, h := _, ok := purserref01_Times.ok, ent := ent Try.func51 (by kernel_rfl) rfl, v := some (hdlV _ _ _), vok := by intro g h; obtain rfl := Option.some.inj h; exact hdlV_ok (by kernel_rfl) purserref01_Times.ok }

theorem purserref01_Int.ok : HdlOk Try.prog 52 (hdl [(true, (.pair (.arr .u64 10) .bool))] [.sl 0 false (.int .i64), .sl 1 false .bool] (fun y => purserref01_Int.f y)) :=
  hdl_ok [] [⟨3, 6, [], [(.norm, [.sl 5 false (.int .u64)])], 0⟩, ⟨3, 10, [], [(.norm, [.sl 2 false (.int .i64), .sl 3 false .bool])], 0⟩, ⟨0, 2, [], [], 9⟩] _ _ _ Try.func52 rfl (by kernel_rfl) (by kernel_rfl) (fun y => by kernel_rfl)
noncomputable def purserref01_Int.h : Hnd Try.prog := { f := 52, h := _, ok := purserref01_Int.ok, ent := ent Try.func52 (by kernel_rfl) rfl, v := some (hdlV _ _ _), vok := by intro g h; obtain rfl := Option.some.inj h; exact hdlV_ok (by kernel_rfl) purserref01_Int.ok }

theorem purserref01_Plus.ok : HdlOk Try.prog 53 (hdl [(true, (.pair (.arr .u64 10) .bool)), (true, (.pair (.arr .u64 10) .bool))] [.sl 0 true (.pair (.arr .u64 10) .bool)] (fun y => purserref01_Plus.f y.1 y.2)) :=
  hdl_ok [purserref01_zero.h, purserref01_add.h, purserref01_less.h, purserref01_sub.h] [⟨1, 16, [.blk 0 82 (.pair (.arr .u64 10) .bool), .blk 1 82 (.pair (.arr .u64 10) .bool)], [(.norm, [.blk 0 82 (.pair (.arr .u64 10) .bool), .blk 1 82 (.pair (.arr .u64 10) .bool)])], 0⟩, ⟨1, 23, [.blk 3 82 (.pair (.arr .u64 10) .bool)], [(.norm, [.blk 3 82 (.pair (.arr .u64 10) .bool)])], 0⟩] _ _ _ Try.func53 rfl (by kernel_rfl) (by kernel_rfl) (fun y => by kernel_rfl)
noncomputable def purserref01_Plus.h : Hnd Try.prog := { f := 53, h := _, ok := purserref01_Plus.ok, ent := ent Try.func53 (by kernel_rfl) rfl, v := some (hdlV _ _ _), vok := by intro g h; obtain rfl := Option.some.inj h; exact hdlV_ok (by kernel_rfl) purserref01_Plus.ok }

theorem purserref01_Sum.ok : HdlOk Try.prog 54 (hdl [(false, (.slice (.int .i64)))] [.sl 0 false (.int .i64), .sl 1 false .bool] (fun y => purserref01_Sum.f y)) :=
  hdl_ok [purserref01_Of.h, purserref01_Int.h, purserref01_Plus.h] [⟨0, 3, [.sl 5 false (.int .i64), .blk 0 82 (.pair (.arr .u64 10) .bool)], [(.exit 0, [.blk 0 82 (.pair (.arr .u64 10) .bool)])], 0⟩] _ _ _ Try.func54 rfl (by kernel_rfl) (by kernel_rfl) (fun y => by kernel_rfl)
noncomputable def purserref01_Sum.h : Hnd Try.prog := { f := 54, h := _, ok := purserref01_Sum.ok, ent := ent Try.func54 (by kernel_rfl) rfl, v := some (hdlV _ _ _), vok := by intro g h; obtain rfl := Option.some.inj h; exact hdlV_ok (by kernel_rfl) purserref01_Sum.ok }

theorem purserref10_Cost.ok : HdlOk Try.prog 24 (hdl [(false, (.slice (.pair (.int .i64) (.pair (.int .i64) (.int .i64)))))] [.sl 0 false (.int .i64), .sl 1 false .bool] (fun y => purserref10_Cost.f y)) :=
  hdl_ok [purserref01_Of.h, purserref01_Times.h, purserref01_Int.h, purserref01_Plus.h] [⟨0, 3, [.sl 5 false (.int .i64), .blk 0 82 (.pair (.arr .u64 10) .bool)], [(.ret, [.sl 2 false (.int .i64), .sl 3 false .bool, .blk 0 82 (.pair (.arr .u64 10) .bool)]), (.exit 0, [.blk 0 82 (.pair (.arr .u64 10) .bool)])], 0⟩] _ _ _ Try.func24 rfl (by kernel_rfl) (by kernel_rfl) (fun y => by kernel_rfl)
noncomputable def purserref10_Cost.h : Hnd Try.prog := { f := 24, h := _, ok := purserref10_Cost.ok, ent := ent Try.func24 (by kernel_rfl) rfl, v := some (hdlV _ _ _), vok := by intro g h; obtain rfl := Option.some.inj h; exact hdlV_ok (by kernel_rfl) purserref10_Cost.ok }

theorem purserref10_Blocks.ok : HdlOk Try.prog 26 (hdl [(false, (.slice (.pair (.int .i64) (.pair (.int .i64) (.int .i64)))))] [.sl 0 false (.int .i64), .sl 1 false .bool] (fun y => purserref10_Blocks.f y)) :=
  hdl_ok [purserref01_Sum.h] [⟨0, 3, [.row 4 (.int .i64) 3, .sl 5 false (.int .i64)], [(.exit 0, [.row 4 (.int .i64) 3])], 0⟩] _ _ _ Try.func26 rfl (by kernel_rfl) (by kernel_rfl) (fun y => by kernel_rfl)
noncomputable def purserref10_Blocks.h : Hnd Try.prog := { f := 26, h := _, ok := purserref10_Blocks.ok, ent := ent Try.func26 (by kernel_rfl) rfl, v := some (hdlV _ _ _), vok := by intro g h; obtain rfl := Option.some.inj h; exact hdlV_ok (by kernel_rfl) purserref10_Blocks.ok }

theorem purserlaw10_TierCosts.ok : HdlOk Try.prog 6 (hdl [(false, (.slice (.pair (.int .i64) (.pair (.int .i64) (.int .i64)))))] [.sl 0 false .bool] (fun y => purserlaw10_TierCosts.f y)) :=
  hdl_ok [purserlaw10_tiers.h, tier_Cost.h, purserlaw10_few.h, purserref10_Cost.h, tier_Blocks.h, purserref10_Blocks.h] [⟨3, 6, [], [(.norm, [.sl 2 false .bool])], 0⟩] _ _ _ Try.func6 rfl (by kernel_rfl) (by kernel_rfl) (fun y => by kernel_rfl)
noncomputable def purserlaw10_TierCosts.h : Hnd Try.prog := { f := 6, h := _, ok := purserlaw10_TierCosts.ok, ent := ent Try.func6 (by kernel_rfl) rfl, v := some (hdlV _ _ _), vok := by intro g h; obtain rfl := Option.some.inj h; exact hdlV_ok (by kernel_rfl) purserlaw10_TierCosts.ok }
end Go.Proofs.Ytencgpidlklenaa.Y
