/- What the table of types says, type by type: closed facts, by program. -/
import Derived.Test.YtceidfifaoooiaaProg
import Derived.Test.YtceidfifaoooiaaT12
set_option linter.unusedVariables false
set_option maxRecDepth 10000
namespace Go.Proofs.Ytceidfifaoooiaa
open Go.TM
@[go_sem] theorem tab1 : mkTab Try.prog 1 = some { k := .func, size := 1, bytes := 8, zero := some (.nilf), eqok := true } := by kernel_rfl
@[go_sem] theorem tab2 : mkTab Try.prog 2 = some { k := .int .i64, size := 1, bytes := 8, zero := some (.int .i64 0), eqok := true } := by kernel_rfl
@[go_sem] theorem tab3 : mkTab Try.prog 3 = some { k := .int .i64, size := 1, bytes := 8, zero := some (.int .i64 0), eqok := true } := by kernel_rfl
@[go_sem] theorem tab4 : mkTab Try.prog 4 = some { k := .bool, size := 1, bytes := 1, zero := some (.bool false), eqok := true } := by kernel_rfl
@[go_sem] theorem tab5 : mkTab Try.prog 5 = some { k := .int .u8, size := 1, bytes := 1, zero := some (.int .u8 0), eqok := true } := by kernel_rfl
@[go_sem] theorem tab9 : mkTab Try.prog 9 = some { k := .str, size := 1, bytes := 16, zero := some (.str ⟨#[]⟩), eqok := true } := by kernel_rfl
@[go_sem] theorem tab12 : mkTab Try.prog 12 = some { k := .int .u64, size := 1, bytes := 8, zero := some (.int .u64 0), eqok := true } := by kernel_rfl
@[go_sem] theorem tab20 : mkTab Try.prog 20 = some { k := .iface true, size := 1, bytes := 16, zero := some (.nili), eqok := true } := by kernel_rfl
@[go_sem] theorem tab21 : mkTab Try.prog 21 = some { k := .int .i32, size := 1, bytes := 4, zero := some (.int .i32 0), eqok := true } := by kernel_rfl
@[go_sem] theorem tab22 : mkTab Try.prog 22 = some { k := .int .u32, size := 1, bytes := 4, zero := some (.int .u32 0), eqok := true } := by kernel_rfl
@[go_sem] theorem tab23 : mkTab Try.prog 23 = some { k := .ptr 43, size := 1, bytes := 8, zero := some (.nilp), eqok := true } := by kernel_rfl
@[go_sem] theorem tab24 : mkTab Try.prog 24 = some { k := .func, size := 1, bytes := 8, zero := some (.nilf), eqok := true } := by kernel_rfl
@[go_sem] theorem tab25 : mkTab Try.prog 25 = some { k := .func, size := 1, bytes := 8, zero := some (.nilf), eqok := true } := by kernel_rfl
@[go_sem] theorem tab26 : mkTab Try.prog 26 = some { k := .func, size := 1, bytes := 8, zero := some (.nilf), eqok := true } := by kernel_rfl
@[go_sem] theorem tab27 : mkTab Try.prog 27 = some { k := .func, size := 1, bytes := 8, zero := some (.nilf), eqok := true } := by kernel_rfl
@[go_sem] theorem tab28 : mkTab Try.prog 28 = some { k := .func, size := 1, bytes := 8, zero := some (.nilf), eqok := true } := by kernel_rfl
@[go_sem] theorem tab29 : mkTab Try.prog 29 = some { k := .slice 9, size := 1, bytes := 24, zero := some (.nils), eqok := true } := by kernel_rfl
@[go_sem] theorem tab30 : mkTab Try.prog 30 = some { k := .func, size := 1, bytes := 8, zero := some (.nilf), eqok := true } := by kernel_rfl
@[go_sem] theorem tab31 : mkTab Try.prog 31 = some { k := .func, size := 1, bytes := 8, zero := some (.nilf), eqok := true } := by kernel_rfl
@[go_sem] theorem tab32 : mkTab Try.prog 32 = some { k := .func, size := 1, bytes := 8, zero := some (.nilf), eqok := true } := by kernel_rfl
@[go_sem] theorem tab33 : mkTab Try.prog 33 = some { k := .int .i64, size := 1, bytes := 8, zero := some (.int .i64 0), eqok := true } := by kernel_rfl
@[go_sem] theorem tab35 : mkTab Try.prog 35 = some { k := .func, size := 1, bytes := 8, zero := some (.nilf), eqok := true } := by kernel_rfl
@[go_sem] theorem tab36 : mkTab Try.prog 36 = some { k := .func, size := 1, bytes := 8, zero := some (.nilf), eqok := true } := by kernel_rfl
@[go_sem] theorem tab37 : mkTab Try.prog 37 = some { k := .func, size := 1, bytes := 8, zero := some (.nilf), eqok := true } := by kernel_rfl
@[go_sem] theorem tab38 : mkTab Try.prog 38 = some { k := .slice 5, size := 1, bytes := 24, zero := some (.nils), eqok := true } := by kernel_rfl
@[go_sem] theorem tab39 : mkTab Try.prog 39 = some { k := .func, size := 1, bytes := 8, zero := some (.nilf), eqok := true } := by kernel_rfl
@[go_sem] theorem tab40 : mkTab Try.prog 40 = some { k := .func, size := 1, bytes := 8, zero := some (.nilf), eqok := true } := by kernel_rfl
@[go_sem] theorem tab41 : mkTab Try.prog 41 = some { k := .func, size := 1, bytes := 8, zero := some (.nilf), eqok := true } := by kernel_rfl
@[go_sem] theorem tab42 : mkTab Try.prog 42 = some { k := .arr 256 22, size := 256, bytes := 1024, zero := some (.agg (List.replicate 256 (.int .u32 0))), eqok := true } := by kernel_rfl
@[go_sem] theorem tab43 : mkTab Try.prog 43 = some { k := .arr 256 22, size := 256, bytes := 1024, zero := some (.agg (List.replicate 256 (.int .u32 0))), eqok := true } := by kernel_rfl
@[go_sem] theorem tab44 : mkTab Try.prog 44 = some { k := .int .u64, size := 1, bytes := 8, zero := some (.int .u64 0), eqok := true } := by kernel_rfl
@[go_sem] theorem tab45 : mkTab Try.prog 45 = some { k := .func, size := 1, bytes := 8, zero := some (.nilf), eqok := true } := by kernel_rfl
@[go_sem] theorem tab51 : mkTab Try.prog 51 = some { k := .func, size := 1, bytes := 8, zero := some (.nilf), eqok := true } := by kernel_rfl
@[go_sem] theorem tab55 : mkTab Try.prog 55 = some { k := .ptr 5, size := 1, bytes := 8, zero := some (.nilp), eqok := true } := by kernel_rfl
end Go.Proofs.Ytceidfifaoooiaa
