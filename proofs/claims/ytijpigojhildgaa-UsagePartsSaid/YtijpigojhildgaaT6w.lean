/- One more of the program's functions computes what its plain function tells, whatever the input; no statement of its own. -/
import Derived.Test.YtijpigojhildgaaT1w
import Derived.Test.YtijpigojhildgaaT6d
import Derived.KernelRfl
namespace Go.Proofs.Ytijpigojhildgaa.Y
open Go.Am Go.Vk
set_option maxRecDepth 100000
set_option linter.unusedVariables false
theorem purserlaw20_UsageParts.ok : HdlOk Try.prog 6 (hdl [(true, (.pair .bool (.pair (.arr .i64 3) (.slice (.pair (.int .i64) (.pair (.int .i64) (.int .i64))))))), (false, (.int .i64))] [.sl 0 false .bool] (fun y => purserlaw20_UsageParts.f y.1 y.2)) :=
  hdl_ok [usage_New.h, purserlaw20_uses.h, usage_Sheet_Add.h, purserlaw20_Act_lines.h, usage_Sheet_Write.h, usage_Sheet_Position.h] [⟨0, 4, [.sl 8 false (.int .i64)], [(.ret, [.sl 4 false .bool]), (.exit 0, [])], 0⟩, ⟨3, 11, [], [(.norm, [.sl 77 false .bool])], 0⟩, ⟨3, 16, [.opn 2 80 1, .cmap 2 0 ⟨87, 3, true, (.pair (.int .i64) (.pair (.int .i64) (.pair (.int .i64) (.pair (.int .i64) (.pair (.int .i64) (.int .i64)))))), false, (.int .i64)⟩, .opn 4 80 1, .cmap 4 0 ⟨87, 3, true, (.pair (.int .i64) (.pair (.int .i64) (.pair (.int .i64) (.pair (.int .i64) (.pair (.int .i64) (.int .i64)))))), false, (.int .i64)⟩], [(.norm, [.sl 4 false .bool, .opn 2 80 1, .cmap 2 0 ⟨87, 3, true, (.pair (.int .i64) (.pair (.int .i64) (.pair (.int .i64) (.pair (.int .i64) (.pair (.int .i64) (.int .i64)))))), false, (.int .i64)⟩, .opn 4 80 1, .cmap 4 0 ⟨87, 3, true, (.pair (.int .i64) (.pair (.int .i64) (.pair (.int .i64) (.pair (.int .i64) (.pair (.int .i64) (.int .i64)))))), false, (.int .i64)⟩])], 0⟩] _ _ _ Try.func6 rfl (by kernel_rfl) (by kernel_rfl) (fun y => by kernel_rfl)
noncomputable def purserlaw20_UsageParts.h : Hnd Try.prog := { f := 6, h := _, ok := purserlaw20_UsageParts.ok, ent := ent Try.func6 (by kernel_rfl) rfl, v := some (hdlV _ _ _), vok := by intro g h; obtain rfl := Option.some.inj h; exact hdlV_ok (by kernel_rfl) purserlaw20_UsageParts.ok }
end Go.Proofs.Ytijpigojhildgaa.Y
