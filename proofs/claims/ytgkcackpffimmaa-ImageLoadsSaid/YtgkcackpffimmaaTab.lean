/- What the table of types says, type by type: closed facts, by program. -/
import Derived.Test.YtgkcackpffimmaaProg
import Derived.Test.YtgkcackpffimmaaT12
set_option linter.unusedVariables false
set_option maxRecDepth 10000
namespace Go.Proofs.Ytgkcackpffimmaa
open Go.TM
@[go_sem] theorem tab1 : mkTab Try.prog 1 = some { k := .func, size := 1, bytes := 8, zero := some (.nilf), eqok := true } := by kernel_rfl
@[go_sem] theorem tab2 : mkTab Try.prog 2 = some { k := .int .i64, size := 1, bytes := 8, zero := some (.int .i64 0), eqok := true } := by kernel_rfl
@[go_sem] theorem tab3 : mkTab Try.prog 3 = some { k := .int .i64, size := 1, bytes := 8, zero := some (.int .i64 0), eqok := true } := by kernel_rfl
@[go_sem] theorem tab4 : mkTab Try.prog 4 = some { k := .bool, size := 1, bytes := 1, zero := some (.bool false), eqok := true } := by kernel_rfl
@[go_sem] theorem tab5 : mkTab Try.prog 5 = some { k := .int .u8, size := 1, bytes := 1, zero := some (.int .u8 0), eqok := true } := by kernel_rfl
@[go_sem] theorem tab9 : mkTab Try.prog 9 = some { k := .str, size := 1, bytes := 16, zero := some (.str ⟨#[]⟩), eqok := true } := by kernel_rfl
@[go_sem] theorem tab12 : mkTab Try.prog 12 = some { k := .int .u64, size := 1, bytes := 8, zero := some (.int .u64 0), eqok := true } := by kernel_rfl
@[go_sem] theorem tab20 : mkTab Try.prog 20 = some { k := .iface true, size := 1, bytes := 16, zero := some (.nili), eqok := true } := by kernel_rfl
@[go_sem] theorem tab21 : mkTab Try.prog 21 = some { k := .int .i32, size := 1, bytes := 4, zero := some (.int .i32 0), eqok := true } := by kernel_rfl
@[go_sem] theorem tab22 : mkTab Try.prog 22 = some { k := .slice 3, size := 1, bytes := 24, zero := some (.nils), eqok := true } := by kernel_rfl
@[go_sem] theorem tab23 : mkTab Try.prog 23 = some { k := .slice 44, size := 1, bytes := 24, zero := some (.nils), eqok := true } := by kernel_rfl
@[go_sem] theorem tab24 : mkTab Try.prog 24 = some { k := .slice 40, size := 1, bytes := 24, zero := some (.nils), eqok := true } := by kernel_rfl
@[go_sem] theorem tab25 : mkTab Try.prog 25 = some { k := .slice 38, size := 1, bytes := 24, zero := some (.nils), eqok := true } := by kernel_rfl
@[go_sem] theorem tab26 : mkTab Try.prog 26 = some { k := .struct [(3, 0), (22, 1), (3, 2), (23, 3), (24, 4), (25, 5)] true, size := 6, bytes := 112, zero := some (.agg [.int .i64 0, .nils, .int .i64 0, .nils, .nils, .nils]), eqok := true } := by kernel_rfl
@[go_sem] theorem tab27 : mkTab Try.prog 27 = some { k := .struct [(3, 0), (22, 1), (3, 2), (23, 3), (24, 4), (25, 5)] true, size := 6, bytes := 112, zero := some (.agg [.int .i64 0, .nils, .int .i64 0, .nils, .nils, .nils]), eqok := true } := by kernel_rfl
@[go_sem] theorem tab28 : mkTab Try.prog 28 = some { k := .func, size := 1, bytes := 8, zero := some (.nilf), eqok := true } := by kernel_rfl
@[go_sem] theorem tab29 : mkTab Try.prog 29 = some { k := .func, size := 1, bytes := 8, zero := some (.nilf), eqok := true } := by kernel_rfl
@[go_sem] theorem tab30 : mkTab Try.prog 30 = some { k := .struct [(3, 0), (3, 1)] true, size := 2, bytes := 16, zero := some (.agg [.int .i64 0, .int .i64 0]), eqok := true } := by kernel_rfl
@[go_sem] theorem tab31 : mkTab Try.prog 31 = some { k := .struct [(3, 0), (3, 1)] true, size := 2, bytes := 16, zero := some (.agg [.int .i64 0, .int .i64 0]), eqok := true } := by kernel_rfl
@[go_sem] theorem tab32 : mkTab Try.prog 32 = some { k := .int .i64, size := 1, bytes := 8, zero := some (.int .i64 0), eqok := true } := by kernel_rfl
@[go_sem] theorem tab34 : mkTab Try.prog 34 = some { k := .func, size := 1, bytes := 8, zero := some (.nilf), eqok := true } := by kernel_rfl
@[go_sem] theorem tab36 : mkTab Try.prog 36 = some { k := .func, size := 1, bytes := 8, zero := some (.nilf), eqok := true } := by kernel_rfl
@[go_sem] theorem tab37 : mkTab Try.prog 37 = some { k := .struct [(3, 0), (3, 1), (3, 2), (3, 3), (4, 4), (3, 5), (3, 6), (3, 7), (3, 8), (3, 9), (3, 10)] true, size := 11, bytes := 88, zero := some (.agg [.int .i64 0, .int .i64 0, .int .i64 0, .int .i64 0, .bool false, .int .i64 0, .int .i64 0, .int .i64 0, .int .i64 0, .int .i64 0, .int .i64 0]), eqok := true } := by kernel_rfl
@[go_sem] theorem tab38 : mkTab Try.prog 38 = some { k := .struct [(3, 0), (3, 1), (3, 2), (3, 3), (4, 4), (3, 5), (3, 6), (3, 7), (3, 8), (3, 9), (3, 10)] true, size := 11, bytes := 88, zero := some (.agg [.int .i64 0, .int .i64 0, .int .i64 0, .int .i64 0, .bool false, .int .i64 0, .int .i64 0, .int .i64 0, .int .i64 0, .int .i64 0, .int .i64 0]), eqok := true } := by kernel_rfl
@[go_sem] theorem tab39 : mkTab Try.prog 39 = some { k := .struct [(3, 0), (3, 1), (3, 2), (3, 3), (4, 4), (3, 5), (3, 6), (22, 7)] true, size := 8, bytes := 80, zero := some (.agg [.int .i64 0, .int .i64 0, .int .i64 0, .int .i64 0, .bool false, .int .i64 0, .int .i64 0, .nils]), eqok := true } := by kernel_rfl
@[go_sem] theorem tab40 : mkTab Try.prog 40 = some { k := .struct [(3, 0), (3, 1), (3, 2), (3, 3), (4, 4), (3, 5), (3, 6), (22, 7)] true, size := 8, bytes := 80, zero := some (.agg [.int .i64 0, .int .i64 0, .int .i64 0, .int .i64 0, .bool false, .int .i64 0, .int .i64 0, .nils]), eqok := true } := by kernel_rfl
@[go_sem] theorem tab42 : mkTab Try.prog 42 = some { k := .func, size := 1, bytes := 8, zero := some (.nilf), eqok := true } := by kernel_rfl
@[go_sem] theorem tab43 : mkTab Try.prog 43 = some { k := .struct [(3, 0), (3, 1), (3, 2)] true, size := 3, bytes := 24, zero := some (.agg [.int .i64 0, .int .i64 0, .int .i64 0]), eqok := true } := by kernel_rfl
@[go_sem] theorem tab44 : mkTab Try.prog 44 = some { k := .struct [(3, 0), (3, 1), (3, 2)] true, size := 3, bytes := 24, zero := some (.agg [.int .i64 0, .int .i64 0, .int .i64 0]), eqok := true } := by kernel_rfl
@[go_sem] theorem tab46 : mkTab Try.prog 46 = some { k := .func, size := 1, bytes := 8, zero := some (.nilf), eqok := true } := by kernel_rfl
@[go_sem] theorem tab47 : mkTab Try.prog 47 = some { k := .struct [(3, 0), (3, 1), (3, 2), (3, 3), (9, 4)] true, size := 5, bytes := 48, zero := some (.agg [.int .i64 0, .int .i64 0, .int .i64 0, .int .i64 0, .str ⟨#[]⟩]), eqok := true } := by kernel_rfl
@[go_sem] theorem tab48 : mkTab Try.prog 48 = some { k := .struct [(3, 0), (3, 1), (3, 2), (3, 3), (9, 4)] true, size := 5, bytes := 48, zero := some (.agg [.int .i64 0, .int .i64 0, .int .i64 0, .int .i64 0, .str ⟨#[]⟩]), eqok := true } := by kernel_rfl
@[go_sem] theorem tab49 : mkTab Try.prog 49 = some { k := .func, size := 1, bytes := 8, zero := some (.nilf), eqok := true } := by kernel_rfl
@[go_sem] theorem tab50 : mkTab Try.prog 50 = some { k := .func, size := 1, bytes := 8, zero := some (.nilf), eqok := true } := by kernel_rfl
@[go_sem] theorem tab51 : mkTab Try.prog 51 = some { k := .func, size := 1, bytes := 8, zero := some (.nilf), eqok := true } := by kernel_rfl
@[go_sem] theorem tab53 : mkTab Try.prog 53 = some { k := .func, size := 1, bytes := 8, zero := some (.nilf), eqok := true } := by kernel_rfl
@[go_sem] theorem tab54 : mkTab Try.prog 54 = some { k := .func, size := 1, bytes := 8, zero := some (.nilf), eqok := true } := by kernel_rfl
@[go_sem] theorem tab55 : mkTab Try.prog 55 = some { k := .slice 5, size := 1, bytes := 24, zero := some (.nils), eqok := true } := by kernel_rfl
@[go_sem] theorem tab56 : mkTab Try.prog 56 = some { k := .func, size := 1, bytes := 8, zero := some (.nilf), eqok := true } := by kernel_rfl
@[go_sem] theorem tab57 : mkTab Try.prog 57 = some { k := .func, size := 1, bytes := 8, zero := some (.nilf), eqok := true } := by kernel_rfl
@[go_sem] theorem tab59 : mkTab Try.prog 59 = some { k := .func, size := 1, bytes := 8, zero := some (.nilf), eqok := true } := by kernel_rfl
@[go_sem] theorem tab60 : mkTab Try.prog 60 = some { k := .slice 9, size := 1, bytes := 24, zero := some (.nils), eqok := true } := by kernel_rfl
@[go_sem] theorem tab61 : mkTab Try.prog 61 = some { k := .slice 4, size := 1, bytes := 24, zero := some (.nils), eqok := true } := by kernel_rfl
@[go_sem] theorem tab62 : mkTab Try.prog 62 = some { k := .ptr 150, size := 1, bytes := 8, zero := some (.nilp), eqok := true } := by kernel_rfl
@[go_sem] theorem tab64 : mkTab Try.prog 64 = some { k := .func, size := 1, bytes := 8, zero := some (.nilf), eqok := true } := by kernel_rfl
@[go_sem] theorem tab65 : mkTab Try.prog 65 = some { k := .func, size := 1, bytes := 8, zero := some (.nilf), eqok := true } := by kernel_rfl
@[go_sem] theorem tab67 : mkTab Try.prog 67 = some { k := .func, size := 1, bytes := 8, zero := some (.nilf), eqok := true } := by kernel_rfl
@[go_sem] theorem tab68 : mkTab Try.prog 68 = some { k := .func, size := 1, bytes := 8, zero := some (.nilf), eqok := true } := by kernel_rfl
@[go_sem] theorem tab69 : mkTab Try.prog 69 = some { k := .func, size := 1, bytes := 8, zero := some (.nilf), eqok := true } := by kernel_rfl
@[go_sem] theorem tab70 : mkTab Try.prog 70 = some { k := .func, size := 1, bytes := 8, zero := some (.nilf), eqok := true } := by kernel_rfl
@[go_sem] theorem tab71 : mkTab Try.prog 71 = some { k := .func, size := 1, bytes := 8, zero := some (.nilf), eqok := true } := by kernel_rfl
@[go_sem] theorem tab72 : mkTab Try.prog 72 = some { k := .slice 74, size := 1, bytes := 24, zero := some (.nils), eqok := true } := by kernel_rfl
@[go_sem] theorem tab73 : mkTab Try.prog 73 = some { k := .struct [(3, 0), (3, 1), (3, 2), (9, 3)] true, size := 4, bytes := 40, zero := some (.agg [.int .i64 0, .int .i64 0, .int .i64 0, .str ⟨#[]⟩]), eqok := true } := by kernel_rfl
@[go_sem] theorem tab74 : mkTab Try.prog 74 = some { k := .struct [(3, 0), (3, 1), (3, 2), (9, 3)] true, size := 4, bytes := 40, zero := some (.agg [.int .i64 0, .int .i64 0, .int .i64 0, .str ⟨#[]⟩]), eqok := true } := by kernel_rfl
@[go_sem] theorem tab75 : mkTab Try.prog 75 = some { k := .func, size := 1, bytes := 8, zero := some (.nilf), eqok := true } := by kernel_rfl
@[go_sem] theorem tab76 : mkTab Try.prog 76 = some { k := .ptr 169, size := 1, bytes := 8, zero := some (.nilp), eqok := true } := by kernel_rfl
@[go_sem] theorem tab78 : mkTab Try.prog 78 = some { k := .func, size := 1, bytes := 8, zero := some (.nilf), eqok := true } := by kernel_rfl
@[go_sem] theorem tab79 : mkTab Try.prog 79 = some { k := .func, size := 1, bytes := 8, zero := some (.nilf), eqok := true } := by kernel_rfl
@[go_sem] theorem tab80 : mkTab Try.prog 80 = some { k := .func, size := 1, bytes := 8, zero := some (.nilf), eqok := true } := by kernel_rfl
@[go_sem] theorem tab81 : mkTab Try.prog 81 = some { k := .func, size := 1, bytes := 8, zero := some (.nilf), eqok := true } := by kernel_rfl
@[go_sem] theorem tab82 : mkTab Try.prog 82 = some { k := .func, size := 1, bytes := 8, zero := some (.nilf), eqok := true } := by kernel_rfl
@[go_sem] theorem tab84 : mkTab Try.prog 84 = some { k := .func, size := 1, bytes := 8, zero := some (.nilf), eqok := true } := by kernel_rfl
@[go_sem] theorem tab85 : mkTab Try.prog 85 = some { k := .func, size := 1, bytes := 8, zero := some (.nilf), eqok := true } := by kernel_rfl
@[go_sem] theorem tab86 : mkTab Try.prog 86 = some { k := .func, size := 1, bytes := 8, zero := some (.nilf), eqok := true } := by kernel_rfl
@[go_sem] theorem tab87 : mkTab Try.prog 87 = some { k := .func, size := 1, bytes := 8, zero := some (.nilf), eqok := true } := by kernel_rfl
@[go_sem] theorem tab88 : mkTab Try.prog 88 = some { k := .func, size := 1, bytes := 8, zero := some (.nilf), eqok := true } := by kernel_rfl
@[go_sem] theorem tab90 : mkTab Try.prog 90 = some { k := .func, size := 1, bytes := 8, zero := some (.nilf), eqok := true } := by kernel_rfl
@[go_sem] theorem tab91 : mkTab Try.prog 91 = some { k := .func, size := 1, bytes := 8, zero := some (.nilf), eqok := true } := by kernel_rfl
@[go_sem] theorem tab92 : mkTab Try.prog 92 = some { k := .func, size := 1, bytes := 8, zero := some (.nilf), eqok := true } := by kernel_rfl
@[go_sem] theorem tab93 : mkTab Try.prog 93 = some { k := .ptr 96, size := 1, bytes := 8, zero := some (.nilp), eqok := true } := by kernel_rfl
@[go_sem] theorem tab94 : mkTab Try.prog 94 = some { k := .map 3 40, size := 1, bytes := 8, zero := some (.nilm), eqok := true } := by kernel_rfl
@[go_sem] theorem tab95 : mkTab Try.prog 95 = some { k := .struct [(27, 0), (94, 6)] true, size := 7, bytes := 120, zero := some (.agg [.int .i64 0, .nils, .int .i64 0, .nils, .nils, .nils, .nilm]), eqok := true } := by kernel_rfl
@[go_sem] theorem tab96 : mkTab Try.prog 96 = some { k := .struct [(27, 0), (94, 6)] true, size := 7, bytes := 120, zero := some (.agg [.int .i64 0, .nils, .int .i64 0, .nils, .nils, .nils, .nilm]), eqok := true } := by kernel_rfl
@[go_sem] theorem tab97 : mkTab Try.prog 97 = some { k := .map 3 3, size := 1, bytes := 8, zero := some (.nilm), eqok := true } := by kernel_rfl
@[go_sem] theorem tab98 : mkTab Try.prog 98 = some { k := .map 189 3, size := 1, bytes := 8, zero := some (.nilm), eqok := true } := by kernel_rfl
@[go_sem] theorem tab99 : mkTab Try.prog 99 = some { k := .func, size := 1, bytes := 8, zero := some (.nilf), eqok := true } := by kernel_rfl
@[go_sem] theorem tab100 : mkTab Try.prog 100 = some { k := .func, size := 1, bytes := 8, zero := some (.nilf), eqok := true } := by kernel_rfl
@[go_sem] theorem tab101 : mkTab Try.prog 101 = some { k := .func, size := 1, bytes := 8, zero := some (.nilf), eqok := true } := by kernel_rfl
@[go_sem] theorem tab102 : mkTab Try.prog 102 = some { k := .struct [(3, 0), (3, 1), (99, 2)] true, size := 3, bytes := 24, zero := some (.agg [.int .i64 0, .int .i64 0, .nilf]), eqok := true } := by kernel_rfl
@[go_sem] theorem tab103 : mkTab Try.prog 103 = some { k := .func, size := 1, bytes := 8, zero := some (.nilf), eqok := true } := by kernel_rfl
@[go_sem] theorem tab104 : mkTab Try.prog 104 = some { k := .func, size := 1, bytes := 8, zero := some (.nilf), eqok := true } := by kernel_rfl
@[go_sem] theorem tab105 : mkTab Try.prog 105 = some { k := .func, size := 1, bytes := 8, zero := some (.nilf), eqok := true } := by kernel_rfl
@[go_sem] theorem tab106 : mkTab Try.prog 106 = some { k := .slice 102, size := 1, bytes := 24, zero := some (.nils), eqok := true } := by kernel_rfl
@[go_sem] theorem tab107 : mkTab Try.prog 107 = some { k := .func, size := 1, bytes := 8, zero := some (.nilf), eqok := true } := by kernel_rfl
@[go_sem] theorem tab108 : mkTab Try.prog 108 = some { k := .func, size := 1, bytes := 8, zero := some (.nilf), eqok := true } := by kernel_rfl
@[go_sem] theorem tab109 : mkTab Try.prog 109 = some { k := .func, size := 1, bytes := 8, zero := some (.nilf), eqok := true } := by kernel_rfl
@[go_sem] theorem tab110 : mkTab Try.prog 110 = some { k := .func, size := 1, bytes := 8, zero := some (.nilf), eqok := true } := by kernel_rfl
@[go_sem] theorem tab111 : mkTab Try.prog 111 = some { k := .ptr 113, size := 1, bytes := 8, zero := some (.nilp), eqok := true } := by kernel_rfl
@[go_sem] theorem tab112 : mkTab Try.prog 112 = some { k := .struct [(55, 0), (4, 1)] true, size := 2, bytes := 32, zero := some (.agg [.nils, .bool false]), eqok := true } := by kernel_rfl
@[go_sem] theorem tab113 : mkTab Try.prog 113 = some { k := .struct [(55, 0), (4, 1)] true, size := 2, bytes := 32, zero := some (.agg [.nils, .bool false]), eqok := true } := by kernel_rfl
@[go_sem] theorem tab114 : mkTab Try.prog 114 = some { k := .func, size := 1, bytes := 8, zero := some (.nilf), eqok := true } := by kernel_rfl
@[go_sem] theorem tab115 : mkTab Try.prog 115 = some { k := .func, size := 1, bytes := 8, zero := some (.nilf), eqok := true } := by kernel_rfl
@[go_sem] theorem tab116 : mkTab Try.prog 116 = some { k := .func, size := 1, bytes := 8, zero := some (.nilf), eqok := true } := by kernel_rfl
@[go_sem] theorem tab117 : mkTab Try.prog 117 = some { k := .func, size := 1, bytes := 8, zero := some (.nilf), eqok := true } := by kernel_rfl
@[go_sem] theorem tab118 : mkTab Try.prog 118 = some { k := .func, size := 1, bytes := 8, zero := some (.nilf), eqok := true } := by kernel_rfl
@[go_sem] theorem tab119 : mkTab Try.prog 119 = some { k := .func, size := 1, bytes := 8, zero := some (.nilf), eqok := true } := by kernel_rfl
@[go_sem] theorem tab120 : mkTab Try.prog 120 = some { k := .func, size := 1, bytes := 8, zero := some (.nilf), eqok := true } := by kernel_rfl
@[go_sem] theorem tab121 : mkTab Try.prog 121 = some { k := .func, size := 1, bytes := 8, zero := some (.nilf), eqok := true } := by kernel_rfl
@[go_sem] theorem tab122 : mkTab Try.prog 122 = some { k := .func, size := 1, bytes := 8, zero := some (.nilf), eqok := true } := by kernel_rfl
@[go_sem] theorem tab123 : mkTab Try.prog 123 = some { k := .func, size := 1, bytes := 8, zero := some (.nilf), eqok := true } := by kernel_rfl
@[go_sem] theorem tab124 : mkTab Try.prog 124 = some { k := .int .u64, size := 1, bytes := 8, zero := some (.int .u64 0), eqok := true } := by kernel_rfl
@[go_sem] theorem tab125 : mkTab Try.prog 125 = some { k := .func, size := 1, bytes := 8, zero := some (.nilf), eqok := true } := by kernel_rfl
@[go_sem] theorem tab126 : mkTab Try.prog 126 = some { k := .func, size := 1, bytes := 8, zero := some (.nilf), eqok := true } := by kernel_rfl
@[go_sem] theorem tab127 : mkTab Try.prog 127 = some { k := .func, size := 1, bytes := 8, zero := some (.nilf), eqok := true } := by kernel_rfl
@[go_sem] theorem tab128 : mkTab Try.prog 128 = some { k := .func, size := 1, bytes := 8, zero := some (.nilf), eqok := true } := by kernel_rfl
@[go_sem] theorem tab129 : mkTab Try.prog 129 = some { k := .func, size := 1, bytes := 8, zero := some (.nilf), eqok := true } := by kernel_rfl
@[go_sem] theorem tab130 : mkTab Try.prog 130 = some { k := .func, size := 1, bytes := 8, zero := some (.nilf), eqok := true } := by kernel_rfl
@[go_sem] theorem tab131 : mkTab Try.prog 131 = some { k := .arr 6 5, size := 6, bytes := 6, zero := some (.agg [.int .u8 0, .int .u8 0, .int .u8 0, .int .u8 0, .int .u8 0, .int .u8 0]), eqok := true } := by kernel_rfl
@[go_sem] theorem tab132 : mkTab Try.prog 132 = some { k := .arr 6 5, size := 6, bytes := 6, zero := some (.agg [.int .u8 0, .int .u8 0, .int .u8 0, .int .u8 0, .int .u8 0, .int .u8 0]), eqok := true } := by kernel_rfl
@[go_sem] theorem tab134 : mkTab Try.prog 134 = some { k := .func, size := 1, bytes := 8, zero := some (.nilf), eqok := true } := by kernel_rfl
@[go_sem] theorem tab135 : mkTab Try.prog 135 = some { k := .func, size := 1, bytes := 8, zero := some (.nilf), eqok := true } := by kernel_rfl
@[go_sem] theorem tab136 : mkTab Try.prog 136 = some { k := .struct [(3, 0), (3, 1)] true, size := 2, bytes := 16, zero := some (.agg [.int .i64 0, .int .i64 0]), eqok := true } := by kernel_rfl
@[go_sem] theorem tab137 : mkTab Try.prog 137 = some { k := .struct [(3, 0), (3, 1)] true, size := 2, bytes := 16, zero := some (.agg [.int .i64 0, .int .i64 0]), eqok := true } := by kernel_rfl
@[go_sem] theorem tab138 : mkTab Try.prog 138 = some { k := .func, size := 1, bytes := 8, zero := some (.nilf), eqok := true } := by kernel_rfl
@[go_sem] theorem tab139 : mkTab Try.prog 139 = some { k := .func, size := 1, bytes := 8, zero := some (.nilf), eqok := true } := by kernel_rfl
@[go_sem] theorem tab140 : mkTab Try.prog 140 = some { k := .func, size := 1, bytes := 8, zero := some (.nilf), eqok := true } := by kernel_rfl
@[go_sem] theorem tab141 : mkTab Try.prog 141 = some { k := .func, size := 1, bytes := 8, zero := some (.nilf), eqok := true } := by kernel_rfl
@[go_sem] theorem tab142 : mkTab Try.prog 142 = some { k := .ptr 211, size := 1, bytes := 8, zero := some (.nilp), eqok := true } := by kernel_rfl
@[go_sem] theorem tab143 : mkTab Try.prog 143 = some { k := .func, size := 1, bytes := 8, zero := some (.nilf), eqok := true } := by kernel_rfl
@[go_sem] theorem tab145 : mkTab Try.prog 145 = some { k := .func, size := 1, bytes := 8, zero := some (.nilf), eqok := true } := by kernel_rfl
@[go_sem] theorem tab146 : mkTab Try.prog 146 = some { k := .func, size := 1, bytes := 8, zero := some (.nilf), eqok := true } := by kernel_rfl
@[go_sem] theorem tab147 : mkTab Try.prog 147 = some { k := .func, size := 1, bytes := 8, zero := some (.nilf), eqok := true } := by kernel_rfl
@[go_sem] theorem tab148 : mkTab Try.prog 148 = some { k := .map 3 155, size := 1, bytes := 8, zero := some (.nilm), eqok := true } := by kernel_rfl
@[go_sem] theorem tab149 : mkTab Try.prog 149 = some { k := .struct [(148, 0)] true, size := 1, bytes := 8, zero := some (.agg [.nilm]), eqok := true } := by kernel_rfl
@[go_sem] theorem tab150 : mkTab Try.prog 150 = some { k := .struct [(148, 0)] true, size := 1, bytes := 8, zero := some (.agg [.nilm]), eqok := true } := by kernel_rfl
@[go_sem] theorem tab151 : mkTab Try.prog 151 = some { k := .iface false, size := 1, bytes := 16, zero := some (.nili), eqok := true } := by kernel_rfl
@[go_sem] theorem tab152 : mkTab Try.prog 152 = some { k := .iface false, size := 1, bytes := 16, zero := some (.nili), eqok := true } := by kernel_rfl
@[go_sem] theorem tab153 : mkTab Try.prog 153 = some { k := .func, size := 1, bytes := 8, zero := some (.nilf), eqok := true } := by kernel_rfl
@[go_sem] theorem tab154 : mkTab Try.prog 154 = some { k := .struct [(38, 0), (152, 11)] true, size := 12, bytes := 104, zero := some (.agg [.int .i64 0, .int .i64 0, .int .i64 0, .int .i64 0, .bool false, .int .i64 0, .int .i64 0, .int .i64 0, .int .i64 0, .int .i64 0, .int .i64 0, .nili]), eqok := false } := by kernel_rfl
@[go_sem] theorem tab155 : mkTab Try.prog 155 = some { k := .struct [(38, 0), (152, 11)] true, size := 12, bytes := 104, zero := some (.agg [.int .i64 0, .int .i64 0, .int .i64 0, .int .i64 0, .bool false, .int .i64 0, .int .i64 0, .int .i64 0, .int .i64 0, .int .i64 0, .int .i64 0, .nili]), eqok := false } := by kernel_rfl
@[go_sem] theorem tab157 : mkTab Try.prog 157 = some { k := .func, size := 1, bytes := 8, zero := some (.nilf), eqok := true } := by kernel_rfl
@[go_sem] theorem tab158 : mkTab Try.prog 158 = some { k := .ptr 161, size := 1, bytes := 8, zero := some (.nilp), eqok := true } := by kernel_rfl
@[go_sem] theorem tab160 : mkTab Try.prog 160 = some { k := .struct [(60, 0), (3, 1), (4, 2)] true, size := 3, bytes := 40, zero := some (.agg [.nils, .int .i64 0, .bool false]), eqok := true } := by kernel_rfl
@[go_sem] theorem tab161 : mkTab Try.prog 161 = some { k := .struct [(60, 0), (3, 1), (4, 2)] true, size := 3, bytes := 40, zero := some (.agg [.nils, .int .i64 0, .bool false]), eqok := true } := by kernel_rfl
@[go_sem] theorem tab162 : mkTab Try.prog 162 = some { k := .func, size := 1, bytes := 8, zero := some (.nilf), eqok := true } := by kernel_rfl
@[go_sem] theorem tab163 : mkTab Try.prog 163 = some { k := .ptr 166, size := 1, bytes := 8, zero := some (.nilp), eqok := true } := by kernel_rfl
@[go_sem] theorem tab165 : mkTab Try.prog 165 = some { k := .struct [(9, 0), (3, 1), (4, 2)] true, size := 3, bytes := 32, zero := some (.agg [.str ⟨#[]⟩, .int .i64 0, .bool false]), eqok := true } := by kernel_rfl
@[go_sem] theorem tab166 : mkTab Try.prog 166 = some { k := .struct [(9, 0), (3, 1), (4, 2)] true, size := 3, bytes := 32, zero := some (.agg [.str ⟨#[]⟩, .int .i64 0, .bool false]), eqok := true } := by kernel_rfl
@[go_sem] theorem tab167 : mkTab Try.prog 167 = some { k := .slice 170, size := 1, bytes := 24, zero := some (.nils), eqok := true } := by kernel_rfl
@[go_sem] theorem tab168 : mkTab Try.prog 168 = some { k := .struct [(167, 0)] true, size := 1, bytes := 24, zero := some (.agg [.nils]), eqok := true } := by kernel_rfl
@[go_sem] theorem tab169 : mkTab Try.prog 169 = some { k := .struct [(167, 0)] true, size := 1, bytes := 24, zero := some (.agg [.nils]), eqok := true } := by kernel_rfl
@[go_sem] theorem tab170 : mkTab Try.prog 170 = some { k := .ptr 172, size := 1, bytes := 8, zero := some (.nilp), eqok := true } := by kernel_rfl
@[go_sem] theorem tab171 : mkTab Try.prog 171 = some { k := .struct [(38, 0), (60, 11), (3, 12), (4, 13)] true, size := 14, bytes := 128, zero := some (.agg [.int .i64 0, .int .i64 0, .int .i64 0, .int .i64 0, .bool false, .int .i64 0, .int .i64 0, .int .i64 0, .int .i64 0, .int .i64 0, .int .i64 0, .nils, .int .i64 0, .bool false]), eqok := true } := by kernel_rfl
@[go_sem] theorem tab172 : mkTab Try.prog 172 = some { k := .struct [(38, 0), (60, 11), (3, 12), (4, 13)] true, size := 14, bytes := 128, zero := some (.agg [.int .i64 0, .int .i64 0, .int .i64 0, .int .i64 0, .bool false, .int .i64 0, .int .i64 0, .int .i64 0, .int .i64 0, .int .i64 0, .int .i64 0, .nils, .int .i64 0, .bool false]), eqok := true } := by kernel_rfl
@[go_sem] theorem tab173 : mkTab Try.prog 173 = some { k := .func, size := 1, bytes := 8, zero := some (.nilf), eqok := true } := by kernel_rfl
@[go_sem] theorem tab174 : mkTab Try.prog 174 = some { k := .ptr 176, size := 1, bytes := 8, zero := some (.nilp), eqok := true } := by kernel_rfl
@[go_sem] theorem tab175 : mkTab Try.prog 175 = some { k := .struct [(142, 0), (32, 1)] true, size := 2, bytes := 16, zero := some (.agg [.nilp, .int .i64 0]), eqok := true } := by kernel_rfl
@[go_sem] theorem tab176 : mkTab Try.prog 176 = some { k := .struct [(142, 0), (32, 1)] true, size := 2, bytes := 16, zero := some (.agg [.nilp, .int .i64 0]), eqok := true } := by kernel_rfl
@[go_sem] theorem tab177 : mkTab Try.prog 177 = some { k := .func, size := 1, bytes := 8, zero := some (.nilf), eqok := true } := by kernel_rfl
@[go_sem] theorem tab178 : mkTab Try.prog 178 = some { k := .func, size := 1, bytes := 8, zero := some (.nilf), eqok := true } := by kernel_rfl
@[go_sem] theorem tab179 : mkTab Try.prog 179 = some { k := .ptr 181, size := 1, bytes := 8, zero := some (.nilp), eqok := true } := by kernel_rfl
@[go_sem] theorem tab180 : mkTab Try.prog 180 = some { k := .struct [(9, 0), (32, 1)] true, size := 2, bytes := 24, zero := some (.agg [.str ⟨#[]⟩, .int .i64 0]), eqok := true } := by kernel_rfl
@[go_sem] theorem tab181 : mkTab Try.prog 181 = some { k := .struct [(9, 0), (32, 1)] true, size := 2, bytes := 24, zero := some (.agg [.str ⟨#[]⟩, .int .i64 0]), eqok := true } := by kernel_rfl
@[go_sem] theorem tab182 : mkTab Try.prog 182 = some { k := .func, size := 1, bytes := 8, zero := some (.nilf), eqok := true } := by kernel_rfl
@[go_sem] theorem tab183 : mkTab Try.prog 183 = some { k := .func, size := 1, bytes := 8, zero := some (.nilf), eqok := true } := by kernel_rfl
@[go_sem] theorem tab184 : mkTab Try.prog 184 = some { k := .func, size := 1, bytes := 8, zero := some (.nilf), eqok := true } := by kernel_rfl
@[go_sem] theorem tab185 : mkTab Try.prog 185 = some { k := .func, size := 1, bytes := 8, zero := some (.nilf), eqok := true } := by kernel_rfl
@[go_sem] theorem tab186 : mkTab Try.prog 186 = some { k := .func, size := 1, bytes := 8, zero := some (.nilf), eqok := true } := by kernel_rfl
@[go_sem] theorem tab187 : mkTab Try.prog 187 = some { k := .func, size := 1, bytes := 8, zero := some (.nilf), eqok := true } := by kernel_rfl
@[go_sem] theorem tab188 : mkTab Try.prog 188 = some { k := .struct [(3, 0), (4, 1), (3, 2), (3, 3)] true, size := 4, bytes := 32, zero := some (.agg [.int .i64 0, .bool false, .int .i64 0, .int .i64 0]), eqok := true } := by kernel_rfl
@[go_sem] theorem tab189 : mkTab Try.prog 189 = some { k := .struct [(3, 0), (4, 1), (3, 2), (3, 3)] true, size := 4, bytes := 32, zero := some (.agg [.int .i64 0, .bool false, .int .i64 0, .int .i64 0]), eqok := true } := by kernel_rfl
@[go_sem] theorem tab190 : mkTab Try.prog 190 = some { k := .func, size := 1, bytes := 8, zero := some (.nilf), eqok := true } := by kernel_rfl
@[go_sem] theorem tab191 : mkTab Try.prog 191 = some { k := .func, size := 1, bytes := 8, zero := some (.nilf), eqok := true } := by kernel_rfl
@[go_sem] theorem tab192 : mkTab Try.prog 192 = some { k := .int .u64, size := 1, bytes := 8, zero := some (.int .u64 0), eqok := true } := by kernel_rfl
@[go_sem] theorem tab193 : mkTab Try.prog 193 = some { k := .func, size := 1, bytes := 8, zero := some (.nilf), eqok := true } := by kernel_rfl
@[go_sem] theorem tab194 : mkTab Try.prog 194 = some { k := .int .u32, size := 1, bytes := 4, zero := some (.int .u32 0), eqok := true } := by kernel_rfl
@[go_sem] theorem tab195 : mkTab Try.prog 195 = some { k := .func, size := 1, bytes := 8, zero := some (.nilf), eqok := true } := by kernel_rfl
@[go_sem] theorem tab196 : mkTab Try.prog 196 = some { k := .func, size := 1, bytes := 8, zero := some (.nilf), eqok := true } := by kernel_rfl
@[go_sem] theorem tab198 : mkTab Try.prog 198 = some { k := .func, size := 1, bytes := 8, zero := some (.nilf), eqok := true } := by kernel_rfl
@[go_sem] theorem tab200 : mkTab Try.prog 200 = some { k := .func, size := 1, bytes := 8, zero := some (.nilf), eqok := true } := by kernel_rfl
@[go_sem] theorem tab201 : mkTab Try.prog 201 = some { k := .func, size := 1, bytes := 8, zero := some (.nilf), eqok := true } := by kernel_rfl
@[go_sem] theorem tab202 : mkTab Try.prog 202 = some { k := .ptr 204, size := 1, bytes := 8, zero := some (.nilp), eqok := true } := by kernel_rfl
@[go_sem] theorem tab203 : mkTab Try.prog 203 = some { k := .struct [(202, 0), (55, 1)] true, size := 2, bytes := 32, zero := some (.agg [.nilp, .nils]), eqok := true } := by kernel_rfl
@[go_sem] theorem tab204 : mkTab Try.prog 204 = some { k := .struct [(202, 0), (55, 1)] true, size := 2, bytes := 32, zero := some (.agg [.nilp, .nils]), eqok := true } := by kernel_rfl
@[go_sem] theorem tab205 : mkTab Try.prog 205 = some { k := .iface false, size := 1, bytes := 16, zero := some (.nili), eqok := true } := by kernel_rfl
@[go_sem] theorem tab206 : mkTab Try.prog 206 = some { k := .iface false, size := 1, bytes := 16, zero := some (.nili), eqok := true } := by kernel_rfl
@[go_sem] theorem tab208 : mkTab Try.prog 208 = some { k := .func, size := 1, bytes := 8, zero := some (.nilf), eqok := true } := by kernel_rfl
@[go_sem] theorem tab209 : mkTab Try.prog 209 = some { k := .func, size := 1, bytes := 8, zero := some (.nilf), eqok := true } := by kernel_rfl
@[go_sem] theorem tab210 : mkTab Try.prog 210 = some { k := .struct [(9, 0), (32, 1)] true, size := 2, bytes := 24, zero := some (.agg [.str ⟨#[]⟩, .int .i64 0]), eqok := true } := by kernel_rfl
@[go_sem] theorem tab211 : mkTab Try.prog 211 = some { k := .struct [(9, 0), (32, 1)] true, size := 2, bytes := 24, zero := some (.agg [.str ⟨#[]⟩, .int .i64 0]), eqok := true } := by kernel_rfl
@[go_sem] theorem tab212 : mkTab Try.prog 212 = some { k := .func, size := 1, bytes := 8, zero := some (.nilf), eqok := true } := by kernel_rfl
@[go_sem] theorem tab214 : mkTab Try.prog 214 = some { k := .func, size := 1, bytes := 8, zero := some (.nilf), eqok := true } := by kernel_rfl
@[go_sem] theorem tab215 : mkTab Try.prog 215 = some { k := .func, size := 1, bytes := 8, zero := some (.nilf), eqok := true } := by kernel_rfl
@[go_sem] theorem tab216 : mkTab Try.prog 216 = some { k := .func, size := 1, bytes := 8, zero := some (.nilf), eqok := true } := by kernel_rfl
@[go_sem] theorem tab218 : mkTab Try.prog 218 = some { k := .func, size := 1, bytes := 8, zero := some (.nilf), eqok := true } := by kernel_rfl
@[go_sem] theorem tab219 : mkTab Try.prog 219 = some { k := .func, size := 1, bytes := 8, zero := some (.nilf), eqok := true } := by kernel_rfl
@[go_sem] theorem tab220 : mkTab Try.prog 220 = some { k := .func, size := 1, bytes := 8, zero := some (.nilf), eqok := true } := by kernel_rfl
@[go_sem] theorem tab221 : mkTab Try.prog 221 = some { k := .func, size := 1, bytes := 8, zero := some (.nilf), eqok := true } := by kernel_rfl
@[go_sem] theorem tab222 : mkTab Try.prog 222 = some { k := .func, size := 1, bytes := 8, zero := some (.nilf), eqok := true } := by kernel_rfl
@[go_sem] theorem tab223 : mkTab Try.prog 223 = some { k := .func, size := 1, bytes := 8, zero := some (.nilf), eqok := true } := by kernel_rfl
@[go_sem] theorem tab224 : mkTab Try.prog 224 = some { k := .func, size := 1, bytes := 8, zero := some (.nilf), eqok := true } := by kernel_rfl
@[go_sem] theorem tab225 : mkTab Try.prog 225 = some { k := .func, size := 1, bytes := 8, zero := some (.nilf), eqok := true } := by kernel_rfl
@[go_sem] theorem tab226 : mkTab Try.prog 226 = some { k := .func, size := 1, bytes := 8, zero := some (.nilf), eqok := true } := by kernel_rfl
@[go_sem] theorem tab227 : mkTab Try.prog 227 = some { k := .func, size := 1, bytes := 8, zero := some (.nilf), eqok := true } := by kernel_rfl
@[go_sem] theorem tab228 : mkTab Try.prog 228 = some { k := .ptr 242, size := 1, bytes := 8, zero := some (.nilp), eqok := true } := by kernel_rfl
@[go_sem] theorem tab229 : mkTab Try.prog 229 = some { k := .func, size := 1, bytes := 8, zero := some (.nilf), eqok := true } := by kernel_rfl
@[go_sem] theorem tab230 : mkTab Try.prog 230 = some { k := .func, size := 1, bytes := 8, zero := some (.nilf), eqok := true } := by kernel_rfl
@[go_sem] theorem tab232 : mkTab Try.prog 232 = some { k := .func, size := 1, bytes := 8, zero := some (.nilf), eqok := true } := by kernel_rfl
@[go_sem] theorem tab234 : mkTab Try.prog 234 = some { k := .func, size := 1, bytes := 8, zero := some (.nilf), eqok := true } := by kernel_rfl
@[go_sem] theorem tab235 : mkTab Try.prog 235 = some { k := .ptr 5, size := 1, bytes := 8, zero := some (.nilp), eqok := true } := by kernel_rfl
@[go_sem] theorem tab236 : mkTab Try.prog 236 = some { k := .func, size := 1, bytes := 8, zero := some (.nilf), eqok := true } := by kernel_rfl
@[go_sem] theorem tab237 : mkTab Try.prog 237 = some { k := .arr 3 3, size := 3, bytes := 24, zero := some (.agg [.int .i64 0, .int .i64 0, .int .i64 0]), eqok := true } := by kernel_rfl
@[go_sem] theorem tab238 : mkTab Try.prog 238 = some { k := .func, size := 1, bytes := 8, zero := some (.nilf), eqok := true } := by kernel_rfl
@[go_sem] theorem tab239 : mkTab Try.prog 239 = some { k := .func, size := 1, bytes := 8, zero := some (.nilf), eqok := true } := by kernel_rfl
@[go_sem] theorem tab240 : mkTab Try.prog 240 = some { k := .func, size := 1, bytes := 8, zero := some (.nilf), eqok := true } := by kernel_rfl
@[go_sem] theorem tab241 : mkTab Try.prog 241 = some { k := .arr 256 194, size := 256, bytes := 1024, zero := some (.agg (List.replicate 256 (.int .u32 0))), eqok := true } := by kernel_rfl
@[go_sem] theorem tab242 : mkTab Try.prog 242 = some { k := .arr 256 194, size := 256, bytes := 1024, zero := some (.agg (List.replicate 256 (.int .u32 0))), eqok := true } := by kernel_rfl
@[go_sem] theorem tab243 : mkTab Try.prog 243 = some { k := .func, size := 1, bytes := 8, zero := some (.nilf), eqok := true } := by kernel_rfl
@[go_sem] theorem tab246 : mkTab Try.prog 246 = some { k := .func, size := 1, bytes := 8, zero := some (.nilf), eqok := true } := by kernel_rfl
@[go_sem] theorem tab247 : mkTab Try.prog 247 = some { k := .func, size := 1, bytes := 8, zero := some (.nilf), eqok := true } := by kernel_rfl
@[go_sem] theorem tab248 : mkTab Try.prog 248 = some { k := .func, size := 1, bytes := 8, zero := some (.nilf), eqok := true } := by kernel_rfl
@[go_sem] theorem tab249 : mkTab Try.prog 249 = some { k := .int .i64, size := 1, bytes := 8, zero := some (.int .i64 0), eqok := true } := by kernel_rfl
@[go_sem] theorem tab251 : mkTab Try.prog 251 = some { k := .func, size := 1, bytes := 8, zero := some (.nilf), eqok := true } := by kernel_rfl
@[go_sem] theorem tab252 : mkTab Try.prog 252 = some { k := .func, size := 1, bytes := 8, zero := some (.nilf), eqok := true } := by kernel_rfl
@[go_sem] theorem tab253 : mkTab Try.prog 253 = some { k := .func, size := 1, bytes := 8, zero := some (.nilf), eqok := true } := by kernel_rfl
@[go_sem] theorem tab255 : mkTab Try.prog 255 = some { k := .func, size := 1, bytes := 8, zero := some (.nilf), eqok := true } := by kernel_rfl
@[go_sem] theorem tab256 : mkTab Try.prog 256 = some { k := .func, size := 1, bytes := 8, zero := some (.nilf), eqok := true } := by kernel_rfl
@[go_sem] theorem tab257 : mkTab Try.prog 257 = some { k := .func, size := 1, bytes := 8, zero := some (.nilf), eqok := true } := by kernel_rfl
@[go_sem] theorem tab258 : mkTab Try.prog 258 = some { k := .int .u64, size := 1, bytes := 8, zero := some (.int .u64 0), eqok := true } := by kernel_rfl
@[go_sem] theorem tab259 : mkTab Try.prog 259 = some { k := .func, size := 1, bytes := 8, zero := some (.nilf), eqok := true } := by kernel_rfl
@[go_sem] theorem tab260 : mkTab Try.prog 260 = some { k := .func, size := 1, bytes := 8, zero := some (.nilf), eqok := true } := by kernel_rfl
@[go_sem] theorem tab261 : mkTab Try.prog 261 = some { k := .func, size := 1, bytes := 8, zero := some (.nilf), eqok := true } := by kernel_rfl
@[go_sem] theorem tab262 : mkTab Try.prog 262 = some { k := .ptr 3, size := 1, bytes := 8, zero := some (.nilp), eqok := true } := by kernel_rfl
@[go_sem] theorem tab263 : mkTab Try.prog 263 = some { k := .func, size := 1, bytes := 8, zero := some (.nilf), eqok := true } := by kernel_rfl
@[go_sem] theorem tab264 : mkTab Try.prog 264 = some { k := .ptr 258, size := 1, bytes := 8, zero := some (.nilp), eqok := true } := by kernel_rfl
@[go_sem] theorem tab266 : mkTab Try.prog 266 = some { k := .func, size := 1, bytes := 8, zero := some (.nilf), eqok := true } := by kernel_rfl
end Go.Proofs.Ytgkcackpffimmaa
