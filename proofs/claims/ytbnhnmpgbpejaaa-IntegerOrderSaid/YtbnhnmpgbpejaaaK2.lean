/- What the statements of this seat share. -/
import Derived.Test.YtbnhnmpgbpejaaaRows
import Derived.Test.YtbnhnmpgbpejaaaK1
namespace Go.Proofs.Ytbnhnmpgbpejaaa
set_option linter.unusedSimpArgs false
set_option linter.unusedVariables false
open Go.ChangeShapes Go.WideShapes Go.ChangeAt Go.RowKit

theorem own_knob : ownKnob Try.prog.godebug = none := by kernel_rfl
theorem laid_out : laidOutB Try.prog = true := by kernel_rfl
theorem cells_u32 : Try.prog.cellsOf 26 = 1 := by kernel_rfl
theorem cells_raw : Try.prog.cellsOf 24 = 2 := by kernel_rfl
theorem int_args {z : Int} (h : (Lit.int .i64 z).wf = true) : -9223372036854775808 ≤ z ∧ z ≤ 9223372036854775807 := by
  simpa [Lit.wf, IntKind.min, IntKind.max, IntKind.signed, IntKind.bits] using h
end Go.Proofs.Ytbnhnmpgbpejaaa
