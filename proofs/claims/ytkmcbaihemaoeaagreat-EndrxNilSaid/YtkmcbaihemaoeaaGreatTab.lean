/- What the table of types says, type by type: closed facts, by program. -/
import Derived.Test.YtkmcbaihemaoeaaGreatProg
import Derived.Test.YtkmcbaihemaoeaaGreatT12
set_option linter.unusedVariables false
set_option maxRecDepth 10000
namespace Go.Proofs.YtkmcbaihemaoeaaGreat
open Go.TM
@[go_sem] theorem tab1 : mkTab Tryz.prog 1 = some { k := .func, size := 1, bytes := 8, zero := some (.nilf), eqok := true } := by kernel_rfl
@[go_sem] theorem tab2 : mkTab Tryz.prog 2 = some { k := .int .i64, size := 1, bytes := 8, zero := some (.int .i64 0), eqok := true } := by kernel_rfl
@[go_sem] theorem tab3 : mkTab Tryz.prog 3 = some { k := .int .i64, size := 1, bytes := 8, zero := some (.int .i64 0), eqok := true } := by kernel_rfl
@[go_sem] theorem tab4 : mkTab Tryz.prog 4 = some { k := .bool, size := 1, bytes := 1, zero := some (.bool false), eqok := true } := by kernel_rfl
@[go_sem] theorem tab5 : mkTab Tryz.prog 5 = some { k := .int .u8, size := 1, bytes := 1, zero := some (.int .u8 0), eqok := true } := by kernel_rfl
@[go_sem] theorem tab9 : mkTab Tryz.prog 9 = some { k := .str, size := 1, bytes := 16, zero := some (.str ⟨#[]⟩), eqok := true } := by kernel_rfl
@[go_sem] theorem tab12 : mkTab Tryz.prog 12 = some { k := .int .u64, size := 1, bytes := 8, zero := some (.int .u64 0), eqok := true } := by kernel_rfl
@[go_sem] theorem tab20 : mkTab Tryz.prog 20 = some { k := .iface true, size := 1, bytes := 16, zero := some (.nili), eqok := true } := by kernel_rfl
@[go_sem] theorem tab21 : mkTab Tryz.prog 21 = some { k := .int .i32, size := 1, bytes := 4, zero := some (.int .i32 0), eqok := true } := by kernel_rfl
@[go_sem] theorem tab22 : mkTab Tryz.prog 22 = some { k := .slice 3, size := 1, bytes := 24, zero := some (.nils), eqok := true } := by kernel_rfl
@[go_sem] theorem tab23 : mkTab Tryz.prog 23 = some { k := .slice 395, size := 1, bytes := 24, zero := some (.nils), eqok := true } := by kernel_rfl
@[go_sem] theorem tab24 : mkTab Tryz.prog 24 = some { k := .slice 44, size := 1, bytes := 24, zero := some (.nils), eqok := true } := by kernel_rfl
@[go_sem] theorem tab25 : mkTab Tryz.prog 25 = some { k := .slice 127, size := 1, bytes := 24, zero := some (.nils), eqok := true } := by kernel_rfl
@[go_sem] theorem tab26 : mkTab Tryz.prog 26 = some { k := .struct [(3, 0), (22, 1), (3, 2), (23, 3), (24, 4), (25, 5)] true, size := 6, bytes := 112, zero := some (.agg [.int .i64 0, .nils, .int .i64 0, .nils, .nils, .nils]), eqok := true } := by kernel_rfl
@[go_sem] theorem tab27 : mkTab Tryz.prog 27 = some { k := .struct [(3, 0), (22, 1), (3, 2), (23, 3), (24, 4), (25, 5)] true, size := 6, bytes := 112, zero := some (.agg [.int .i64 0, .nils, .int .i64 0, .nils, .nils, .nils]), eqok := true } := by kernel_rfl
@[go_sem] theorem tab28 : mkTab Tryz.prog 28 = some { k := .slice 39, size := 1, bytes := 24, zero := some (.nils), eqok := true } := by kernel_rfl
@[go_sem] theorem tab29 : mkTab Tryz.prog 29 = some { k := .arr 3 3, size := 3, bytes := 24, zero := some (.agg [.int .i64 0, .int .i64 0, .int .i64 0]), eqok := true } := by kernel_rfl
@[go_sem] theorem tab30 : mkTab Tryz.prog 30 = some { k := .func, size := 1, bytes := 8, zero := some (.nilf), eqok := true } := by kernel_rfl
@[go_sem] theorem tab31 : mkTab Tryz.prog 31 = some { k := .func, size := 1, bytes := 8, zero := some (.nilf), eqok := true } := by kernel_rfl
@[go_sem] theorem tab32 : mkTab Tryz.prog 32 = some { k := .func, size := 1, bytes := 8, zero := some (.nilf), eqok := true } := by kernel_rfl
@[go_sem] theorem tab33 : mkTab Tryz.prog 33 = some { k := .ptr 176, size := 1, bytes := 8, zero := some (.nilp), eqok := true } := by kernel_rfl
@[go_sem] theorem tab34 : mkTab Tryz.prog 34 = some { k := .int .i64, size := 1, bytes := 8, zero := some (.int .i64 0), eqok := true } := by kernel_rfl
@[go_sem] theorem tab36 : mkTab Tryz.prog 36 = some { k := .func, size := 1, bytes := 8, zero := some (.nilf), eqok := true } := by kernel_rfl
@[go_sem] theorem tab37 : mkTab Tryz.prog 37 = some { k := .map 3 3, size := 1, bytes := 8, zero := some (.nilm), eqok := true } := by kernel_rfl
@[go_sem] theorem tab38 : mkTab Tryz.prog 38 = some { k := .struct [(4, 0), (3, 1), (3, 2), (9, 3), (3, 4)] true, size := 5, bytes := 48, zero := some (.agg [.bool false, .int .i64 0, .int .i64 0, .str ⟨#[]⟩, .int .i64 0]), eqok := true } := by kernel_rfl
@[go_sem] theorem tab39 : mkTab Tryz.prog 39 = some { k := .struct [(4, 0), (3, 1), (3, 2), (9, 3), (3, 4)] true, size := 5, bytes := 48, zero := some (.agg [.bool false, .int .i64 0, .int .i64 0, .str ⟨#[]⟩, .int .i64 0]), eqok := true } := by kernel_rfl
@[go_sem] theorem tab40 : mkTab Tryz.prog 40 = some { k := .func, size := 1, bytes := 8, zero := some (.nilf), eqok := true } := by kernel_rfl
@[go_sem] theorem tab42 : mkTab Tryz.prog 42 = some { k := .func, size := 1, bytes := 8, zero := some (.nilf), eqok := true } := by kernel_rfl
@[go_sem] theorem tab43 : mkTab Tryz.prog 43 = some { k := .struct [(3, 0), (3, 1), (3, 2), (3, 3), (4, 4), (3, 5), (3, 6), (22, 7)] true, size := 8, bytes := 80, zero := some (.agg [.int .i64 0, .int .i64 0, .int .i64 0, .int .i64 0, .bool false, .int .i64 0, .int .i64 0, .nils]), eqok := true } := by kernel_rfl
@[go_sem] theorem tab44 : mkTab Tryz.prog 44 = some { k := .struct [(3, 0), (3, 1), (3, 2), (3, 3), (4, 4), (3, 5), (3, 6), (22, 7)] true, size := 8, bytes := 80, zero := some (.agg [.int .i64 0, .int .i64 0, .int .i64 0, .int .i64 0, .bool false, .int .i64 0, .int .i64 0, .nils]), eqok := true } := by kernel_rfl
@[go_sem] theorem tab45 : mkTab Tryz.prog 45 = some { k := .func, size := 1, bytes := 8, zero := some (.nilf), eqok := true } := by kernel_rfl
@[go_sem] theorem tab46 : mkTab Tryz.prog 46 = some { k := .struct [(3, 0), (3, 1), (3, 2), (4, 3)] true, size := 4, bytes := 32, zero := some (.agg [.int .i64 0, .int .i64 0, .int .i64 0, .bool false]), eqok := true } := by kernel_rfl
@[go_sem] theorem tab47 : mkTab Tryz.prog 47 = some { k := .struct [(3, 0), (3, 1), (3, 2), (4, 3)] true, size := 4, bytes := 32, zero := some (.agg [.int .i64 0, .int .i64 0, .int .i64 0, .bool false]), eqok := true } := by kernel_rfl
@[go_sem] theorem tab48 : mkTab Tryz.prog 48 = some { k := .func, size := 1, bytes := 8, zero := some (.nilf), eqok := true } := by kernel_rfl
@[go_sem] theorem tab49 : mkTab Tryz.prog 49 = some { k := .func, size := 1, bytes := 8, zero := some (.nilf), eqok := true } := by kernel_rfl
@[go_sem] theorem tab50 : mkTab Tryz.prog 50 = some { k := .slice 54, size := 1, bytes := 24, zero := some (.nils), eqok := true } := by kernel_rfl
@[go_sem] theorem tab52 : mkTab Tryz.prog 52 = some { k := .func, size := 1, bytes := 8, zero := some (.nilf), eqok := true } := by kernel_rfl
@[go_sem] theorem tab53 : mkTab Tryz.prog 53 = some { k := .struct [(3, 0), (3, 1), (9, 2), (3, 3), (3, 4)] true, size := 5, bytes := 48, zero := some (.agg [.int .i64 0, .int .i64 0, .str ⟨#[]⟩, .int .i64 0, .int .i64 0]), eqok := true } := by kernel_rfl
@[go_sem] theorem tab54 : mkTab Tryz.prog 54 = some { k := .struct [(3, 0), (3, 1), (9, 2), (3, 3), (3, 4)] true, size := 5, bytes := 48, zero := some (.agg [.int .i64 0, .int .i64 0, .str ⟨#[]⟩, .int .i64 0, .int .i64 0]), eqok := true } := by kernel_rfl
@[go_sem] theorem tab55 : mkTab Tryz.prog 55 = some { k := .func, size := 1, bytes := 8, zero := some (.nilf), eqok := true } := by kernel_rfl
@[go_sem] theorem tab56 : mkTab Tryz.prog 56 = some { k := .func, size := 1, bytes := 8, zero := some (.nilf), eqok := true } := by kernel_rfl
@[go_sem] theorem tab57 : mkTab Tryz.prog 57 = some { k := .ptr 209, size := 1, bytes := 8, zero := some (.nilp), eqok := true } := by kernel_rfl
@[go_sem] theorem tab59 : mkTab Tryz.prog 59 = some { k := .func, size := 1, bytes := 8, zero := some (.nilf), eqok := true } := by kernel_rfl
@[go_sem] theorem tab60 : mkTab Tryz.prog 60 = some { k := .slice 223, size := 1, bytes := 24, zero := some (.nils), eqok := true } := by kernel_rfl
@[go_sem] theorem tab62 : mkTab Tryz.prog 62 = some { k := .func, size := 1, bytes := 8, zero := some (.nilf), eqok := true } := by kernel_rfl
@[go_sem] theorem tab63 : mkTab Tryz.prog 63 = some { k := .func, size := 1, bytes := 8, zero := some (.nilf), eqok := true } := by kernel_rfl
@[go_sem] theorem tab64 : mkTab Tryz.prog 64 = some { k := .func, size := 1, bytes := 8, zero := some (.nilf), eqok := true } := by kernel_rfl
@[go_sem] theorem tab65 : mkTab Tryz.prog 65 = some { k := .func, size := 1, bytes := 8, zero := some (.nilf), eqok := true } := by kernel_rfl
@[go_sem] theorem tab66 : mkTab Tryz.prog 66 = some { k := .slice 9, size := 1, bytes := 24, zero := some (.nils), eqok := true } := by kernel_rfl
@[go_sem] theorem tab67 : mkTab Tryz.prog 67 = some { k := .struct [(3, 0), (3, 1), (3, 2), (3, 3), (9, 4)] true, size := 5, bytes := 48, zero := some (.agg [.int .i64 0, .int .i64 0, .int .i64 0, .int .i64 0, .str ⟨#[]⟩]), eqok := true } := by kernel_rfl
@[go_sem] theorem tab68 : mkTab Tryz.prog 68 = some { k := .struct [(3, 0), (3, 1), (3, 2), (3, 3), (9, 4)] true, size := 5, bytes := 48, zero := some (.agg [.int .i64 0, .int .i64 0, .int .i64 0, .int .i64 0, .str ⟨#[]⟩]), eqok := true } := by kernel_rfl
@[go_sem] theorem tab70 : mkTab Tryz.prog 70 = some { k := .func, size := 1, bytes := 8, zero := some (.nilf), eqok := true } := by kernel_rfl
@[go_sem] theorem tab72 : mkTab Tryz.prog 72 = some { k := .func, size := 1, bytes := 8, zero := some (.nilf), eqok := true } := by kernel_rfl
@[go_sem] theorem tab73 : mkTab Tryz.prog 73 = some { k := .func, size := 1, bytes := 8, zero := some (.nilf), eqok := true } := by kernel_rfl
@[go_sem] theorem tab74 : mkTab Tryz.prog 74 = some { k := .func, size := 1, bytes := 8, zero := some (.nilf), eqok := true } := by kernel_rfl
@[go_sem] theorem tab75 : mkTab Tryz.prog 75 = some { k := .slice 97, size := 1, bytes := 24, zero := some (.nils), eqok := true } := by kernel_rfl
@[go_sem] theorem tab76 : mkTab Tryz.prog 76 = some { k := .func, size := 1, bytes := 8, zero := some (.nilf), eqok := true } := by kernel_rfl
@[go_sem] theorem tab77 : mkTab Tryz.prog 77 = some { k := .struct [(3, 0), (3, 1)] true, size := 2, bytes := 16, zero := some (.agg [.int .i64 0, .int .i64 0]), eqok := true } := by kernel_rfl
@[go_sem] theorem tab78 : mkTab Tryz.prog 78 = some { k := .struct [(3, 0), (3, 1)] true, size := 2, bytes := 16, zero := some (.agg [.int .i64 0, .int .i64 0]), eqok := true } := by kernel_rfl
@[go_sem] theorem tab80 : mkTab Tryz.prog 80 = some { k := .func, size := 1, bytes := 8, zero := some (.nilf), eqok := true } := by kernel_rfl
@[go_sem] theorem tab81 : mkTab Tryz.prog 81 = some { k := .slice 87, size := 1, bytes := 24, zero := some (.nils), eqok := true } := by kernel_rfl
@[go_sem] theorem tab82 : mkTab Tryz.prog 82 = some { k := .slice 129, size := 1, bytes := 24, zero := some (.nils), eqok := true } := by kernel_rfl
@[go_sem] theorem tab84 : mkTab Tryz.prog 84 = some { k := .func, size := 1, bytes := 8, zero := some (.nilf), eqok := true } := by kernel_rfl
@[go_sem] theorem tab85 : mkTab Tryz.prog 85 = some { k := .arr 2 9, size := 2, bytes := 32, zero := some (.agg [.str ⟨#[]⟩, .str ⟨#[]⟩]), eqok := true } := by kernel_rfl
@[go_sem] theorem tab86 : mkTab Tryz.prog 86 = some { k := .struct [(3, 0), (3, 1), (3, 2), (85, 3)] true, size := 5, bytes := 56, zero := some (.agg [.int .i64 0, .int .i64 0, .int .i64 0, .str ⟨#[]⟩, .str ⟨#[]⟩]), eqok := true } := by kernel_rfl
@[go_sem] theorem tab87 : mkTab Tryz.prog 87 = some { k := .struct [(3, 0), (3, 1), (3, 2), (85, 3)] true, size := 5, bytes := 56, zero := some (.agg [.int .i64 0, .int .i64 0, .int .i64 0, .str ⟨#[]⟩, .str ⟨#[]⟩]), eqok := true } := by kernel_rfl
@[go_sem] theorem tab88 : mkTab Tryz.prog 88 = some { k := .func, size := 1, bytes := 8, zero := some (.nilf), eqok := true } := by kernel_rfl
@[go_sem] theorem tab89 : mkTab Tryz.prog 89 = some { k := .func, size := 1, bytes := 8, zero := some (.nilf), eqok := true } := by kernel_rfl
@[go_sem] theorem tab90 : mkTab Tryz.prog 90 = some { k := .ptr 247, size := 1, bytes := 8, zero := some (.nilp), eqok := true } := by kernel_rfl
@[go_sem] theorem tab92 : mkTab Tryz.prog 92 = some { k := .func, size := 1, bytes := 8, zero := some (.nilf), eqok := true } := by kernel_rfl
@[go_sem] theorem tab93 : mkTab Tryz.prog 93 = some { k := .ptr 262, size := 1, bytes := 8, zero := some (.nilp), eqok := true } := by kernel_rfl
@[go_sem] theorem tab95 : mkTab Tryz.prog 95 = some { k := .func, size := 1, bytes := 8, zero := some (.nilf), eqok := true } := by kernel_rfl
@[go_sem] theorem tab96 : mkTab Tryz.prog 96 = some { k := .struct [(3, 0), (3, 1), (3, 2), (9, 3)] true, size := 4, bytes := 40, zero := some (.agg [.int .i64 0, .int .i64 0, .int .i64 0, .str ⟨#[]⟩]), eqok := true } := by kernel_rfl
@[go_sem] theorem tab97 : mkTab Tryz.prog 97 = some { k := .struct [(3, 0), (3, 1), (3, 2), (9, 3)] true, size := 4, bytes := 40, zero := some (.agg [.int .i64 0, .int .i64 0, .int .i64 0, .str ⟨#[]⟩]), eqok := true } := by kernel_rfl
@[go_sem] theorem tab98 : mkTab Tryz.prog 98 = some { k := .func, size := 1, bytes := 8, zero := some (.nilf), eqok := true } := by kernel_rfl
@[go_sem] theorem tab100 : mkTab Tryz.prog 100 = some { k := .func, size := 1, bytes := 8, zero := some (.nilf), eqok := true } := by kernel_rfl
@[go_sem] theorem tab101 : mkTab Tryz.prog 101 = some { k := .slice 293, size := 1, bytes := 24, zero := some (.nils), eqok := true } := by kernel_rfl
@[go_sem] theorem tab103 : mkTab Tryz.prog 103 = some { k := .func, size := 1, bytes := 8, zero := some (.nilf), eqok := true } := by kernel_rfl
@[go_sem] theorem tab104 : mkTab Tryz.prog 104 = some { k := .func, size := 1, bytes := 8, zero := some (.nilf), eqok := true } := by kernel_rfl
@[go_sem] theorem tab105 : mkTab Tryz.prog 105 = some { k := .func, size := 1, bytes := 8, zero := some (.nilf), eqok := true } := by kernel_rfl
@[go_sem] theorem tab106 : mkTab Tryz.prog 106 = some { k := .func, size := 1, bytes := 8, zero := some (.nilf), eqok := true } := by kernel_rfl
@[go_sem] theorem tab107 : mkTab Tryz.prog 107 = some { k := .func, size := 1, bytes := 8, zero := some (.nilf), eqok := true } := by kernel_rfl
@[go_sem] theorem tab108 : mkTab Tryz.prog 108 = some { k := .struct [(3, 0), (3, 1), (9, 2)] true, size := 3, bytes := 32, zero := some (.agg [.int .i64 0, .int .i64 0, .str ⟨#[]⟩]), eqok := true } := by kernel_rfl
@[go_sem] theorem tab109 : mkTab Tryz.prog 109 = some { k := .struct [(3, 0), (3, 1), (9, 2)] true, size := 3, bytes := 32, zero := some (.agg [.int .i64 0, .int .i64 0, .str ⟨#[]⟩]), eqok := true } := by kernel_rfl
@[go_sem] theorem tab110 : mkTab Tryz.prog 110 = some { k := .func, size := 1, bytes := 8, zero := some (.nilf), eqok := true } := by kernel_rfl
@[go_sem] theorem tab111 : mkTab Tryz.prog 111 = some { k := .ptr 296, size := 1, bytes := 8, zero := some (.nilp), eqok := true } := by kernel_rfl
@[go_sem] theorem tab113 : mkTab Tryz.prog 113 = some { k := .func, size := 1, bytes := 8, zero := some (.nilf), eqok := true } := by kernel_rfl
@[go_sem] theorem tab114 : mkTab Tryz.prog 114 = some { k := .arr 4 5, size := 4, bytes := 4, zero := some (.agg [.int .u8 0, .int .u8 0, .int .u8 0, .int .u8 0]), eqok := true } := by kernel_rfl
@[go_sem] theorem tab115 : mkTab Tryz.prog 115 = some { k := .arr 4 5, size := 4, bytes := 4, zero := some (.agg [.int .u8 0, .int .u8 0, .int .u8 0, .int .u8 0]), eqok := true } := by kernel_rfl
@[go_sem] theorem tab116 : mkTab Tryz.prog 116 = some { k := .struct [(3, 0), (4, 1), (3, 2), (3, 3), (3, 4), (115, 5), (115, 9), (9, 13)] true, size := 14, bytes := 64, zero := some (.agg [.int .i64 0, .bool false, .int .i64 0, .int .i64 0, .int .i64 0, .int .u8 0, .int .u8 0, .int .u8 0, .int .u8 0, .int .u8 0, .int .u8 0, .int .u8 0, .int .u8 0, .str ⟨#[]⟩]), eqok := true } := by kernel_rfl
@[go_sem] theorem tab117 : mkTab Tryz.prog 117 = some { k := .struct [(3, 0), (4, 1), (3, 2), (3, 3), (3, 4), (115, 5), (115, 9), (9, 13)] true, size := 14, bytes := 64, zero := some (.agg [.int .i64 0, .bool false, .int .i64 0, .int .i64 0, .int .i64 0, .int .u8 0, .int .u8 0, .int .u8 0, .int .u8 0, .int .u8 0, .int .u8 0, .int .u8 0, .int .u8 0, .str ⟨#[]⟩]), eqok := true } := by kernel_rfl
@[go_sem] theorem tab119 : mkTab Tryz.prog 119 = some { k := .func, size := 1, bytes := 8, zero := some (.nilf), eqok := true } := by kernel_rfl
@[go_sem] theorem tab121 : mkTab Tryz.prog 121 = some { k := .func, size := 1, bytes := 8, zero := some (.nilf), eqok := true } := by kernel_rfl
@[go_sem] theorem tab122 : mkTab Tryz.prog 122 = some { k := .struct [(115, 0), (115, 4), (3, 8), (3, 9)] true, size := 10, bytes := 24, zero := some (.agg [.int .u8 0, .int .u8 0, .int .u8 0, .int .u8 0, .int .u8 0, .int .u8 0, .int .u8 0, .int .u8 0, .int .i64 0, .int .i64 0]), eqok := true } := by kernel_rfl
@[go_sem] theorem tab123 : mkTab Tryz.prog 123 = some { k := .struct [(115, 0), (115, 4), (3, 8), (3, 9)] true, size := 10, bytes := 24, zero := some (.agg [.int .u8 0, .int .u8 0, .int .u8 0, .int .u8 0, .int .u8 0, .int .u8 0, .int .u8 0, .int .u8 0, .int .i64 0, .int .i64 0]), eqok := true } := by kernel_rfl
@[go_sem] theorem tab125 : mkTab Tryz.prog 125 = some { k := .func, size := 1, bytes := 8, zero := some (.nilf), eqok := true } := by kernel_rfl
@[go_sem] theorem tab126 : mkTab Tryz.prog 126 = some { k := .struct [(3, 0), (3, 1), (3, 2), (3, 3), (4, 4), (3, 5), (3, 6), (3, 7), (3, 8), (3, 9), (3, 10)] true, size := 11, bytes := 88, zero := some (.agg [.int .i64 0, .int .i64 0, .int .i64 0, .int .i64 0, .bool false, .int .i64 0, .int .i64 0, .int .i64 0, .int .i64 0, .int .i64 0, .int .i64 0]), eqok := true } := by kernel_rfl
@[go_sem] theorem tab127 : mkTab Tryz.prog 127 = some { k := .struct [(3, 0), (3, 1), (3, 2), (3, 3), (4, 4), (3, 5), (3, 6), (3, 7), (3, 8), (3, 9), (3, 10)] true, size := 11, bytes := 88, zero := some (.agg [.int .i64 0, .int .i64 0, .int .i64 0, .int .i64 0, .bool false, .int .i64 0, .int .i64 0, .int .i64 0, .int .i64 0, .int .i64 0, .int .i64 0]), eqok := true } := by kernel_rfl
@[go_sem] theorem tab128 : mkTab Tryz.prog 128 = some { k := .struct [(3, 0), (9, 1)] true, size := 2, bytes := 24, zero := some (.agg [.int .i64 0, .str ⟨#[]⟩]), eqok := true } := by kernel_rfl
@[go_sem] theorem tab129 : mkTab Tryz.prog 129 = some { k := .struct [(3, 0), (9, 1)] true, size := 2, bytes := 24, zero := some (.agg [.int .i64 0, .str ⟨#[]⟩]), eqok := true } := by kernel_rfl
@[go_sem] theorem tab130 : mkTab Tryz.prog 130 = some { k := .slice 304, size := 1, bytes := 24, zero := some (.nils), eqok := true } := by kernel_rfl
@[go_sem] theorem tab131 : mkTab Tryz.prog 131 = some { k := .func, size := 1, bytes := 8, zero := some (.nilf), eqok := true } := by kernel_rfl
@[go_sem] theorem tab132 : mkTab Tryz.prog 132 = some { k := .func, size := 1, bytes := 8, zero := some (.nilf), eqok := true } := by kernel_rfl
@[go_sem] theorem tab133 : mkTab Tryz.prog 133 = some { k := .func, size := 1, bytes := 8, zero := some (.nilf), eqok := true } := by kernel_rfl
@[go_sem] theorem tab134 : mkTab Tryz.prog 134 = some { k := .struct [(3, 0), (3, 1), (3, 2), (22, 3)] true, size := 4, bytes := 48, zero := some (.agg [.int .i64 0, .int .i64 0, .int .i64 0, .nils]), eqok := true } := by kernel_rfl
@[go_sem] theorem tab135 : mkTab Tryz.prog 135 = some { k := .struct [(3, 0), (3, 1), (3, 2), (22, 3)] true, size := 4, bytes := 48, zero := some (.agg [.int .i64 0, .int .i64 0, .int .i64 0, .nils]), eqok := true } := by kernel_rfl
@[go_sem] theorem tab136 : mkTab Tryz.prog 136 = some { k := .ptr 318, size := 1, bytes := 8, zero := some (.nilp), eqok := true } := by kernel_rfl
@[go_sem] theorem tab138 : mkTab Tryz.prog 138 = some { k := .func, size := 1, bytes := 8, zero := some (.nilf), eqok := true } := by kernel_rfl
@[go_sem] theorem tab139 : mkTab Tryz.prog 139 = some { k := .func, size := 1, bytes := 8, zero := some (.nilf), eqok := true } := by kernel_rfl
@[go_sem] theorem tab140 : mkTab Tryz.prog 140 = some { k := .slice 144, size := 1, bytes := 24, zero := some (.nils), eqok := true } := by kernel_rfl
@[go_sem] theorem tab141 : mkTab Tryz.prog 141 = some { k := .func, size := 1, bytes := 8, zero := some (.nilf), eqok := true } := by kernel_rfl
@[go_sem] theorem tab142 : mkTab Tryz.prog 142 = some { k := .func, size := 1, bytes := 8, zero := some (.nilf), eqok := true } := by kernel_rfl
@[go_sem] theorem tab143 : mkTab Tryz.prog 143 = some { k := .struct [(3, 0), (3, 1), (9, 2)] true, size := 3, bytes := 32, zero := some (.agg [.int .i64 0, .int .i64 0, .str ⟨#[]⟩]), eqok := true } := by kernel_rfl
@[go_sem] theorem tab144 : mkTab Tryz.prog 144 = some { k := .struct [(3, 0), (3, 1), (9, 2)] true, size := 3, bytes := 32, zero := some (.agg [.int .i64 0, .int .i64 0, .str ⟨#[]⟩]), eqok := true } := by kernel_rfl
@[go_sem] theorem tab145 : mkTab Tryz.prog 145 = some { k := .map 3 66, size := 1, bytes := 8, zero := some (.nilm), eqok := true } := by kernel_rfl
@[go_sem] theorem tab146 : mkTab Tryz.prog 146 = some { k := .struct [(3, 0), (3, 1), (9, 2)] true, size := 3, bytes := 32, zero := some (.agg [.int .i64 0, .int .i64 0, .str ⟨#[]⟩]), eqok := true } := by kernel_rfl
@[go_sem] theorem tab147 : mkTab Tryz.prog 147 = some { k := .struct [(3, 0), (3, 1), (9, 2)] true, size := 3, bytes := 32, zero := some (.agg [.int .i64 0, .int .i64 0, .str ⟨#[]⟩]), eqok := true } := by kernel_rfl
@[go_sem] theorem tab149 : mkTab Tryz.prog 149 = some { k := .func, size := 1, bytes := 8, zero := some (.nilf), eqok := true } := by kernel_rfl
@[go_sem] theorem tab150 : mkTab Tryz.prog 150 = some { k := .func, size := 1, bytes := 8, zero := some (.nilf), eqok := true } := by kernel_rfl
@[go_sem] theorem tab151 : mkTab Tryz.prog 151 = some { k := .func, size := 1, bytes := 8, zero := some (.nilf), eqok := true } := by kernel_rfl
@[go_sem] theorem tab152 : mkTab Tryz.prog 152 = some { k := .func, size := 1, bytes := 8, zero := some (.nilf), eqok := true } := by kernel_rfl
@[go_sem] theorem tab153 : mkTab Tryz.prog 153 = some { k := .slice 155, size := 1, bytes := 24, zero := some (.nils), eqok := true } := by kernel_rfl
@[go_sem] theorem tab154 : mkTab Tryz.prog 154 = some { k := .struct [(4, 0), (3, 1), (3, 2), (9, 3)] true, size := 4, bytes := 40, zero := some (.agg [.bool false, .int .i64 0, .int .i64 0, .str ⟨#[]⟩]), eqok := true } := by kernel_rfl
@[go_sem] theorem tab155 : mkTab Tryz.prog 155 = some { k := .struct [(4, 0), (3, 1), (3, 2), (9, 3)] true, size := 4, bytes := 40, zero := some (.agg [.bool false, .int .i64 0, .int .i64 0, .str ⟨#[]⟩]), eqok := true } := by kernel_rfl
@[go_sem] theorem tab156 : mkTab Tryz.prog 156 = some { k := .func, size := 1, bytes := 8, zero := some (.nilf), eqok := true } := by kernel_rfl
@[go_sem] theorem tab157 : mkTab Tryz.prog 157 = some { k := .ptr 336, size := 1, bytes := 8, zero := some (.nilp), eqok := true } := by kernel_rfl
@[go_sem] theorem tab159 : mkTab Tryz.prog 159 = some { k := .func, size := 1, bytes := 8, zero := some (.nilf), eqok := true } := by kernel_rfl
@[go_sem] theorem tab160 : mkTab Tryz.prog 160 = some { k := .struct [(3, 0), (3, 1), (9, 2)] true, size := 3, bytes := 32, zero := some (.agg [.int .i64 0, .int .i64 0, .str ⟨#[]⟩]), eqok := true } := by kernel_rfl
@[go_sem] theorem tab162 : mkTab Tryz.prog 162 = some { k := .func, size := 1, bytes := 8, zero := some (.nilf), eqok := true } := by kernel_rfl
@[go_sem] theorem tab163 : mkTab Tryz.prog 163 = some { k := .func, size := 1, bytes := 8, zero := some (.nilf), eqok := true } := by kernel_rfl
@[go_sem] theorem tab164 : mkTab Tryz.prog 164 = some { k := .struct [(3, 0), (28, 1), (3, 2)] true, size := 3, bytes := 40, zero := some (.agg [.int .i64 0, .nils, .int .i64 0]), eqok := true } := by kernel_rfl
@[go_sem] theorem tab165 : mkTab Tryz.prog 165 = some { k := .struct [(3, 0), (28, 1), (3, 2)] true, size := 3, bytes := 40, zero := some (.agg [.int .i64 0, .nils, .int .i64 0]), eqok := true } := by kernel_rfl
@[go_sem] theorem tab166 : mkTab Tryz.prog 166 = some { k := .func, size := 1, bytes := 8, zero := some (.nilf), eqok := true } := by kernel_rfl
@[go_sem] theorem tab167 : mkTab Tryz.prog 167 = some { k := .func, size := 1, bytes := 8, zero := some (.nilf), eqok := true } := by kernel_rfl
@[go_sem] theorem tab168 : mkTab Tryz.prog 168 = some { k := .func, size := 1, bytes := 8, zero := some (.nilf), eqok := true } := by kernel_rfl
@[go_sem] theorem tab170 : mkTab Tryz.prog 170 = some { k := .func, size := 1, bytes := 8, zero := some (.nilf), eqok := true } := by kernel_rfl
@[go_sem] theorem tab171 : mkTab Tryz.prog 171 = some { k := .map 3 185, size := 1, bytes := 8, zero := some (.nilm), eqok := true } := by kernel_rfl
@[go_sem] theorem tab172 : mkTab Tryz.prog 172 = some { k := .map 34 3, size := 1, bytes := 8, zero := some (.nilm), eqok := true } := by kernel_rfl
@[go_sem] theorem tab173 : mkTab Tryz.prog 173 = some { k := .slice 177, size := 1, bytes := 24, zero := some (.nils), eqok := true } := by kernel_rfl
@[go_sem] theorem tab174 : mkTab Tryz.prog 174 = some { k := .slice 372, size := 1, bytes := 24, zero := some (.nils), eqok := true } := by kernel_rfl
@[go_sem] theorem tab175 : mkTab Tryz.prog 175 = some { k := .struct [(3, 0), (173, 1), (171, 2), (174, 3), (3, 4), (172, 5)] true, size := 6, bytes := 80, zero := some (.agg [.int .i64 0, .nils, .nilm, .nils, .int .i64 0, .nilm]), eqok := true } := by kernel_rfl
@[go_sem] theorem tab176 : mkTab Tryz.prog 176 = some { k := .struct [(3, 0), (173, 1), (171, 2), (174, 3), (3, 4), (172, 5)] true, size := 6, bytes := 80, zero := some (.agg [.int .i64 0, .nils, .nilm, .nils, .int .i64 0, .nilm]), eqok := true } := by kernel_rfl
@[go_sem] theorem tab177 : mkTab Tryz.prog 177 = some { k := .ptr 368, size := 1, bytes := 8, zero := some (.nilp), eqok := true } := by kernel_rfl
@[go_sem] theorem tab179 : mkTab Tryz.prog 179 = some { k := .func, size := 1, bytes := 8, zero := some (.nilf), eqok := true } := by kernel_rfl
@[go_sem] theorem tab180 : mkTab Tryz.prog 180 = some { k := .func, size := 1, bytes := 8, zero := some (.nilf), eqok := true } := by kernel_rfl
@[go_sem] theorem tab181 : mkTab Tryz.prog 181 = some { k := .ptr 370, size := 1, bytes := 8, zero := some (.nilp), eqok := true } := by kernel_rfl
@[go_sem] theorem tab183 : mkTab Tryz.prog 183 = some { k := .func, size := 1, bytes := 8, zero := some (.nilf), eqok := true } := by kernel_rfl
@[go_sem] theorem tab184 : mkTab Tryz.prog 184 = some { k := .struct [(3, 0), (3, 1), (3, 2), (4, 3)] true, size := 4, bytes := 32, zero := some (.agg [.int .i64 0, .int .i64 0, .int .i64 0, .bool false]), eqok := true } := by kernel_rfl
@[go_sem] theorem tab185 : mkTab Tryz.prog 185 = some { k := .ptr 187, size := 1, bytes := 8, zero := some (.nilp), eqok := true } := by kernel_rfl
@[go_sem] theorem tab186 : mkTab Tryz.prog 186 = some { k := .struct [(44, 0), (181, 8), (3, 9)] true, size := 10, bytes := 96, zero := some (.agg [.int .i64 0, .int .i64 0, .int .i64 0, .int .i64 0, .bool false, .int .i64 0, .int .i64 0, .nils, .nilp, .int .i64 0]), eqok := true } := by kernel_rfl
@[go_sem] theorem tab187 : mkTab Tryz.prog 187 = some { k := .struct [(44, 0), (181, 8), (3, 9)] true, size := 10, bytes := 96, zero := some (.agg [.int .i64 0, .int .i64 0, .int .i64 0, .int .i64 0, .bool false, .int .i64 0, .int .i64 0, .nils, .nilp, .int .i64 0]), eqok := true } := by kernel_rfl
@[go_sem] theorem tab188 : mkTab Tryz.prog 188 = some { k := .func, size := 1, bytes := 8, zero := some (.nilf), eqok := true } := by kernel_rfl
@[go_sem] theorem tab189 : mkTab Tryz.prog 189 = some { k := .struct [(3, 0), (3, 1)] true, size := 2, bytes := 16, zero := some (.agg [.int .i64 0, .int .i64 0]), eqok := true } := by kernel_rfl
@[go_sem] theorem tab190 : mkTab Tryz.prog 190 = some { k := .struct [(3, 0), (3, 1)] true, size := 2, bytes := 16, zero := some (.agg [.int .i64 0, .int .i64 0]), eqok := true } := by kernel_rfl
@[go_sem] theorem tab192 : mkTab Tryz.prog 192 = some { k := .func, size := 1, bytes := 8, zero := some (.nilf), eqok := true } := by kernel_rfl
@[go_sem] theorem tab193 : mkTab Tryz.prog 193 = some { k := .ptr 379, size := 1, bytes := 8, zero := some (.nilp), eqok := true } := by kernel_rfl
@[go_sem] theorem tab194 : mkTab Tryz.prog 194 = some { k := .func, size := 1, bytes := 8, zero := some (.nilf), eqok := true } := by kernel_rfl
@[go_sem] theorem tab195 : mkTab Tryz.prog 195 = some { k := .slice 199, size := 1, bytes := 24, zero := some (.nils), eqok := true } := by kernel_rfl
@[go_sem] theorem tab197 : mkTab Tryz.prog 197 = some { k := .func, size := 1, bytes := 8, zero := some (.nilf), eqok := true } := by kernel_rfl
@[go_sem] theorem tab198 : mkTab Tryz.prog 198 = some { k := .struct [(3, 0), (9, 1), (3, 2), (3, 3)] true, size := 4, bytes := 40, zero := some (.agg [.int .i64 0, .str ⟨#[]⟩, .int .i64 0, .int .i64 0]), eqok := true } := by kernel_rfl
@[go_sem] theorem tab199 : mkTab Tryz.prog 199 = some { k := .struct [(3, 0), (9, 1), (3, 2), (3, 3)] true, size := 4, bytes := 40, zero := some (.agg [.int .i64 0, .str ⟨#[]⟩, .int .i64 0, .int .i64 0]), eqok := true } := by kernel_rfl
@[go_sem] theorem tab200 : mkTab Tryz.prog 200 = some { k := .func, size := 1, bytes := 8, zero := some (.nilf), eqok := true } := by kernel_rfl
@[go_sem] theorem tab201 : mkTab Tryz.prog 201 = some { k := .func, size := 1, bytes := 8, zero := some (.nilf), eqok := true } := by kernel_rfl
@[go_sem] theorem tab203 : mkTab Tryz.prog 203 = some { k := .func, size := 1, bytes := 8, zero := some (.nilf), eqok := true } := by kernel_rfl
@[go_sem] theorem tab204 : mkTab Tryz.prog 204 = some { k := .slice 210, size := 1, bytes := 24, zero := some (.nils), eqok := true } := by kernel_rfl
@[go_sem] theorem tab205 : mkTab Tryz.prog 205 = some { k := .slice 216, size := 1, bytes := 24, zero := some (.nils), eqok := true } := by kernel_rfl
@[go_sem] theorem tab206 : mkTab Tryz.prog 206 = some { k := .slice 390, size := 1, bytes := 24, zero := some (.nils), eqok := true } := by kernel_rfl
@[go_sem] theorem tab207 : mkTab Tryz.prog 207 = some { k := .slice 34, size := 1, bytes := 24, zero := some (.nils), eqok := true } := by kernel_rfl
@[go_sem] theorem tab208 : mkTab Tryz.prog 208 = some { k := .struct [(27, 0), (3, 6), (204, 7), (205, 8), (206, 9), (3, 10), (207, 11), (3, 12)] true, size := 13, bytes := 232, zero := some (.agg [.int .i64 0, .nils, .int .i64 0, .nils, .nils, .nils, .int .i64 0, .nils, .nils, .nils, .int .i64 0, .nils, .int .i64 0]), eqok := true } := by kernel_rfl
@[go_sem] theorem tab209 : mkTab Tryz.prog 209 = some { k := .struct [(27, 0), (3, 6), (204, 7), (205, 8), (206, 9), (3, 10), (207, 11), (3, 12)] true, size := 13, bytes := 232, zero := some (.agg [.int .i64 0, .nils, .int .i64 0, .nils, .nils, .nils, .int .i64 0, .nils, .nils, .nils, .int .i64 0, .nils, .int .i64 0]), eqok := true } := by kernel_rfl
@[go_sem] theorem tab210 : mkTab Tryz.prog 210 = some { k := .ptr 385, size := 1, bytes := 8, zero := some (.nilp), eqok := true } := by kernel_rfl
@[go_sem] theorem tab212 : mkTab Tryz.prog 212 = some { k := .func, size := 1, bytes := 8, zero := some (.nilf), eqok := true } := by kernel_rfl
@[go_sem] theorem tab213 : mkTab Tryz.prog 213 = some { k := .ptr 388, size := 1, bytes := 8, zero := some (.nilp), eqok := true } := by kernel_rfl
@[go_sem] theorem tab215 : mkTab Tryz.prog 215 = some { k := .func, size := 1, bytes := 8, zero := some (.nilf), eqok := true } := by kernel_rfl
@[go_sem] theorem tab216 : mkTab Tryz.prog 216 = some { k := .ptr 218, size := 1, bytes := 8, zero := some (.nilp), eqok := true } := by kernel_rfl
@[go_sem] theorem tab217 : mkTab Tryz.prog 217 = some { k := .struct [(3, 0), (213, 1), (3, 2)] true, size := 3, bytes := 24, zero := some (.agg [.int .i64 0, .nilp, .int .i64 0]), eqok := true } := by kernel_rfl
@[go_sem] theorem tab218 : mkTab Tryz.prog 218 = some { k := .struct [(3, 0), (213, 1), (3, 2)] true, size := 3, bytes := 24, zero := some (.agg [.int .i64 0, .nilp, .int .i64 0]), eqok := true } := by kernel_rfl
@[go_sem] theorem tab219 : mkTab Tryz.prog 219 = some { k := .slice 222, size := 1, bytes := 24, zero := some (.nils), eqok := true } := by kernel_rfl
@[go_sem] theorem tab221 : mkTab Tryz.prog 221 = some { k := .func, size := 1, bytes := 8, zero := some (.nilf), eqok := true } := by kernel_rfl
@[go_sem] theorem tab222 : mkTab Tryz.prog 222 = some { k := .struct [(3, 0), (9, 1), (3, 2), (3, 3)] true, size := 4, bytes := 40, zero := some (.agg [.int .i64 0, .str ⟨#[]⟩, .int .i64 0, .int .i64 0]), eqok := true } := by kernel_rfl
@[go_sem] theorem tab223 : mkTab Tryz.prog 223 = some { k := .struct [(3, 0), (3, 1), (9, 2), (3, 3), (3, 4)] true, size := 5, bytes := 48, zero := some (.agg [.int .i64 0, .int .i64 0, .str ⟨#[]⟩, .int .i64 0, .int .i64 0]), eqok := true } := by kernel_rfl
@[go_sem] theorem tab224 : mkTab Tryz.prog 224 = some { k := .func, size := 1, bytes := 8, zero := some (.nilf), eqok := true } := by kernel_rfl
@[go_sem] theorem tab225 : mkTab Tryz.prog 225 = some { k := .func, size := 1, bytes := 8, zero := some (.nilf), eqok := true } := by kernel_rfl
@[go_sem] theorem tab226 : mkTab Tryz.prog 226 = some { k := .func, size := 1, bytes := 8, zero := some (.nilf), eqok := true } := by kernel_rfl
@[go_sem] theorem tab227 : mkTab Tryz.prog 227 = some { k := .ptr 230, size := 1, bytes := 8, zero := some (.nilp), eqok := true } := by kernel_rfl
@[go_sem] theorem tab228 : mkTab Tryz.prog 228 = some { k := .map 3 44, size := 1, bytes := 8, zero := some (.nilm), eqok := true } := by kernel_rfl
@[go_sem] theorem tab229 : mkTab Tryz.prog 229 = some { k := .struct [(27, 0), (228, 6)] true, size := 7, bytes := 120, zero := some (.agg [.int .i64 0, .nils, .int .i64 0, .nils, .nils, .nils, .nilm]), eqok := true } := by kernel_rfl
@[go_sem] theorem tab230 : mkTab Tryz.prog 230 = some { k := .struct [(27, 0), (228, 6)] true, size := 7, bytes := 120, zero := some (.agg [.int .i64 0, .nils, .int .i64 0, .nils, .nils, .nils, .nilm]), eqok := true } := by kernel_rfl
@[go_sem] theorem tab231 : mkTab Tryz.prog 231 = some { k := .map 399 3, size := 1, bytes := 8, zero := some (.nilm), eqok := true } := by kernel_rfl
@[go_sem] theorem tab232 : mkTab Tryz.prog 232 = some { k := .func, size := 1, bytes := 8, zero := some (.nilf), eqok := true } := by kernel_rfl
@[go_sem] theorem tab233 : mkTab Tryz.prog 233 = some { k := .func, size := 1, bytes := 8, zero := some (.nilf), eqok := true } := by kernel_rfl
@[go_sem] theorem tab234 : mkTab Tryz.prog 234 = some { k := .struct [(3, 0), (3, 1), (105, 2)] true, size := 3, bytes := 24, zero := some (.agg [.int .i64 0, .int .i64 0, .nilf]), eqok := true } := by kernel_rfl
@[go_sem] theorem tab235 : mkTab Tryz.prog 235 = some { k := .func, size := 1, bytes := 8, zero := some (.nilf), eqok := true } := by kernel_rfl
@[go_sem] theorem tab236 : mkTab Tryz.prog 236 = some { k := .func, size := 1, bytes := 8, zero := some (.nilf), eqok := true } := by kernel_rfl
@[go_sem] theorem tab237 : mkTab Tryz.prog 237 = some { k := .func, size := 1, bytes := 8, zero := some (.nilf), eqok := true } := by kernel_rfl
@[go_sem] theorem tab238 : mkTab Tryz.prog 238 = some { k := .slice 234, size := 1, bytes := 24, zero := some (.nils), eqok := true } := by kernel_rfl
@[go_sem] theorem tab239 : mkTab Tryz.prog 239 = some { k := .func, size := 1, bytes := 8, zero := some (.nilf), eqok := true } := by kernel_rfl
@[go_sem] theorem tab240 : mkTab Tryz.prog 240 = some { k := .int .u64, size := 1, bytes := 8, zero := some (.int .u64 0), eqok := true } := by kernel_rfl
@[go_sem] theorem tab241 : mkTab Tryz.prog 241 = some { k := .map 3 248, size := 1, bytes := 8, zero := some (.nilm), eqok := true } := by kernel_rfl
@[go_sem] theorem tab242 : mkTab Tryz.prog 242 = some { k := .func, size := 1, bytes := 8, zero := some (.nilf), eqok := true } := by kernel_rfl
@[go_sem] theorem tab243 : mkTab Tryz.prog 243 = some { k := .ptr 403, size := 1, bytes := 8, zero := some (.nilp), eqok := true } := by kernel_rfl
@[go_sem] theorem tab244 : mkTab Tryz.prog 244 = some { k := .func, size := 1, bytes := 8, zero := some (.nilf), eqok := true } := by kernel_rfl
@[go_sem] theorem tab245 : mkTab Tryz.prog 245 = some { k := .map 3 87, size := 1, bytes := 8, zero := some (.nilm), eqok := true } := by kernel_rfl
@[go_sem] theorem tab246 : mkTab Tryz.prog 246 = some { k := .struct [(27, 0), (3, 6), (241, 7), (22, 8), (243, 9), (3, 10), (3, 11), (245, 12), (3, 13), (81, 14)] true, size := 15, bytes := 216, zero := some (.agg [.int .i64 0, .nils, .int .i64 0, .nils, .nils, .nils, .int .i64 0, .nilm, .nils, .nilp, .int .i64 0, .int .i64 0, .nilm, .int .i64 0, .nils]), eqok := true } := by kernel_rfl
@[go_sem] theorem tab247 : mkTab Tryz.prog 247 = some { k := .struct [(27, 0), (3, 6), (241, 7), (22, 8), (243, 9), (3, 10), (3, 11), (245, 12), (3, 13), (81, 14)] true, size := 15, bytes := 216, zero := some (.agg [.int .i64 0, .nils, .int .i64 0, .nils, .nils, .nils, .int .i64 0, .nilm, .nils, .nilp, .int .i64 0, .int .i64 0, .nilm, .int .i64 0, .nils]), eqok := true } := by kernel_rfl
@[go_sem] theorem tab248 : mkTab Tryz.prog 248 = some { k := .ptr 252, size := 1, bytes := 8, zero := some (.nilp), eqok := true } := by kernel_rfl
@[go_sem] theorem tab249 : mkTab Tryz.prog 249 = some { k := .ptr 406, size := 1, bytes := 8, zero := some (.nilp), eqok := true } := by kernel_rfl
@[go_sem] theorem tab250 : mkTab Tryz.prog 250 = some { k := .ptr 410, size := 1, bytes := 8, zero := some (.nilp), eqok := true } := by kernel_rfl
@[go_sem] theorem tab251 : mkTab Tryz.prog 251 = some { k := .struct [(44, 0), (249, 8), (250, 9), (3, 10), (3, 11)] true, size := 12, bytes := 112, zero := some (.agg [.int .i64 0, .int .i64 0, .int .i64 0, .int .i64 0, .bool false, .int .i64 0, .int .i64 0, .nils, .nilp, .nilp, .int .i64 0, .int .i64 0]), eqok := true } := by kernel_rfl
@[go_sem] theorem tab252 : mkTab Tryz.prog 252 = some { k := .struct [(44, 0), (249, 8), (250, 9), (3, 10), (3, 11)] true, size := 12, bytes := 112, zero := some (.agg [.int .i64 0, .int .i64 0, .int .i64 0, .int .i64 0, .bool false, .int .i64 0, .int .i64 0, .nils, .nilp, .nilp, .int .i64 0, .int .i64 0]), eqok := true } := by kernel_rfl
@[go_sem] theorem tab254 : mkTab Tryz.prog 254 = some { k := .func, size := 1, bytes := 8, zero := some (.nilf), eqok := true } := by kernel_rfl
@[go_sem] theorem tab256 : mkTab Tryz.prog 256 = some { k := .func, size := 1, bytes := 8, zero := some (.nilf), eqok := true } := by kernel_rfl
@[go_sem] theorem tab257 : mkTab Tryz.prog 257 = some { k := .ptr 259, size := 1, bytes := 8, zero := some (.nilp), eqok := true } := by kernel_rfl
@[go_sem] theorem tab258 : mkTab Tryz.prog 258 = some { k := .struct [(219, 0), (3, 1), (3, 2)] true, size := 3, bytes := 40, zero := some (.agg [.nils, .int .i64 0, .int .i64 0]), eqok := true } := by kernel_rfl
@[go_sem] theorem tab259 : mkTab Tryz.prog 259 = some { k := .struct [(219, 0), (3, 1), (3, 2)] true, size := 3, bytes := 40, zero := some (.agg [.nils, .int .i64 0, .int .i64 0]), eqok := true } := by kernel_rfl
@[go_sem] theorem tab260 : mkTab Tryz.prog 260 = some { k := .slice 269, size := 1, bytes := 24, zero := some (.nils), eqok := true } := by kernel_rfl
@[go_sem] theorem tab261 : mkTab Tryz.prog 261 = some { k := .struct [(27, 0), (3, 6), (260, 7), (257, 8), (3, 9), (3, 10), (101, 11)] true, size := 12, bytes := 192, zero := some (.agg [.int .i64 0, .nils, .int .i64 0, .nils, .nils, .nils, .int .i64 0, .nils, .nilp, .int .i64 0, .int .i64 0, .nils]), eqok := true } := by kernel_rfl
@[go_sem] theorem tab262 : mkTab Tryz.prog 262 = some { k := .struct [(27, 0), (3, 6), (260, 7), (257, 8), (3, 9), (3, 10), (101, 11)] true, size := 12, bytes := 192, zero := some (.agg [.int .i64 0, .nils, .int .i64 0, .nils, .nils, .nils, .int .i64 0, .nils, .nilp, .int .i64 0, .int .i64 0, .nils]), eqok := true } := by kernel_rfl
@[go_sem] theorem tab263 : mkTab Tryz.prog 263 = some { k := .ptr 290, size := 1, bytes := 8, zero := some (.nilp), eqok := true } := by kernel_rfl
@[go_sem] theorem tab265 : mkTab Tryz.prog 265 = some { k := .func, size := 1, bytes := 8, zero := some (.nilf), eqok := true } := by kernel_rfl
@[go_sem] theorem tab266 : mkTab Tryz.prog 266 = some { k := .ptr 412, size := 1, bytes := 8, zero := some (.nilp), eqok := true } := by kernel_rfl
@[go_sem] theorem tab268 : mkTab Tryz.prog 268 = some { k := .func, size := 1, bytes := 8, zero := some (.nilf), eqok := true } := by kernel_rfl
@[go_sem] theorem tab269 : mkTab Tryz.prog 269 = some { k := .ptr 271, size := 1, bytes := 8, zero := some (.nilp), eqok := true } := by kernel_rfl
@[go_sem] theorem tab270 : mkTab Tryz.prog 270 = some { k := .struct [(44, 0), (263, 8), (266, 9), (3, 10), (3, 11)] true, size := 12, bytes := 112, zero := some (.agg [.int .i64 0, .int .i64 0, .int .i64 0, .int .i64 0, .bool false, .int .i64 0, .int .i64 0, .nils, .nilp, .nilp, .int .i64 0, .int .i64 0]), eqok := true } := by kernel_rfl
@[go_sem] theorem tab271 : mkTab Tryz.prog 271 = some { k := .struct [(44, 0), (263, 8), (266, 9), (3, 10), (3, 11)] true, size := 12, bytes := 112, zero := some (.agg [.int .i64 0, .int .i64 0, .int .i64 0, .int .i64 0, .bool false, .int .i64 0, .int .i64 0, .nils, .nilp, .nilp, .int .i64 0, .int .i64 0]), eqok := true } := by kernel_rfl
@[go_sem] theorem tab273 : mkTab Tryz.prog 273 = some { k := .func, size := 1, bytes := 8, zero := some (.nilf), eqok := true } := by kernel_rfl
@[go_sem] theorem tab275 : mkTab Tryz.prog 275 = some { k := .func, size := 1, bytes := 8, zero := some (.nilf), eqok := true } := by kernel_rfl
@[go_sem] theorem tab276 : mkTab Tryz.prog 276 = some { k := .func, size := 1, bytes := 8, zero := some (.nilf), eqok := true } := by kernel_rfl
@[go_sem] theorem tab277 : mkTab Tryz.prog 277 = some { k := .func, size := 1, bytes := 8, zero := some (.nilf), eqok := true } := by kernel_rfl
@[go_sem] theorem tab278 : mkTab Tryz.prog 278 = some { k := .func, size := 1, bytes := 8, zero := some (.nilf), eqok := true } := by kernel_rfl
@[go_sem] theorem tab279 : mkTab Tryz.prog 279 = some { k := .func, size := 1, bytes := 8, zero := some (.nilf), eqok := true } := by kernel_rfl
@[go_sem] theorem tab280 : mkTab Tryz.prog 280 = some { k := .struct [(9, 0), (9, 1), (3, 2), (3, 3)] true, size := 4, bytes := 48, zero := some (.agg [.str ⟨#[]⟩, .str ⟨#[]⟩, .int .i64 0, .int .i64 0]), eqok := true } := by kernel_rfl
@[go_sem] theorem tab281 : mkTab Tryz.prog 281 = some { k := .struct [(9, 0), (9, 1), (3, 2), (3, 3)] true, size := 4, bytes := 48, zero := some (.agg [.str ⟨#[]⟩, .str ⟨#[]⟩, .int .i64 0, .int .i64 0]), eqok := true } := by kernel_rfl
@[go_sem] theorem tab282 : mkTab Tryz.prog 282 = some { k := .slice 286, size := 1, bytes := 24, zero := some (.nils), eqok := true } := by kernel_rfl
@[go_sem] theorem tab284 : mkTab Tryz.prog 284 = some { k := .func, size := 1, bytes := 8, zero := some (.nilf), eqok := true } := by kernel_rfl
@[go_sem] theorem tab285 : mkTab Tryz.prog 285 = some { k := .struct [(3, 0), (4, 1), (3, 2), (3, 3), (3, 4), (9, 5), (9, 6), (9, 7)] true, size := 8, bytes := 88, zero := some (.agg [.int .i64 0, .bool false, .int .i64 0, .int .i64 0, .int .i64 0, .str ⟨#[]⟩, .str ⟨#[]⟩, .str ⟨#[]⟩]), eqok := true } := by kernel_rfl
@[go_sem] theorem tab286 : mkTab Tryz.prog 286 = some { k := .struct [(3, 0), (4, 1), (3, 2), (3, 3), (3, 4), (9, 5), (9, 6), (9, 7)] true, size := 8, bytes := 88, zero := some (.agg [.int .i64 0, .bool false, .int .i64 0, .int .i64 0, .int .i64 0, .str ⟨#[]⟩, .str ⟨#[]⟩, .str ⟨#[]⟩]), eqok := true } := by kernel_rfl
@[go_sem] theorem tab287 : mkTab Tryz.prog 287 = some { k := .func, size := 1, bytes := 8, zero := some (.nilf), eqok := true } := by kernel_rfl
@[go_sem] theorem tab288 : mkTab Tryz.prog 288 = some { k := .slice 431, size := 1, bytes := 24, zero := some (.nils), eqok := true } := by kernel_rfl
@[go_sem] theorem tab289 : mkTab Tryz.prog 289 = some { k := .struct [(288, 0), (3, 1), (3, 2), (3, 3)] true, size := 4, bytes := 48, zero := some (.agg [.nils, .int .i64 0, .int .i64 0, .int .i64 0]), eqok := true } := by kernel_rfl
@[go_sem] theorem tab290 : mkTab Tryz.prog 290 = some { k := .struct [(288, 0), (3, 1), (3, 2), (3, 3)] true, size := 4, bytes := 48, zero := some (.agg [.nils, .int .i64 0, .int .i64 0, .int .i64 0]), eqok := true } := by kernel_rfl
@[go_sem] theorem tab291 : mkTab Tryz.prog 291 = some { k := .func, size := 1, bytes := 8, zero := some (.nilf), eqok := true } := by kernel_rfl
@[go_sem] theorem tab292 : mkTab Tryz.prog 292 = some { k := .struct [(3, 0), (3, 1), (3, 2), (9, 3), (9, 4)] true, size := 5, bytes := 56, zero := some (.agg [.int .i64 0, .int .i64 0, .int .i64 0, .str ⟨#[]⟩, .str ⟨#[]⟩]), eqok := true } := by kernel_rfl
@[go_sem] theorem tab293 : mkTab Tryz.prog 293 = some { k := .struct [(3, 0), (3, 1), (3, 2), (9, 3), (9, 4)] true, size := 5, bytes := 56, zero := some (.agg [.int .i64 0, .int .i64 0, .int .i64 0, .str ⟨#[]⟩, .str ⟨#[]⟩]), eqok := true } := by kernel_rfl
@[go_sem] theorem tab294 : mkTab Tryz.prog 294 = some { k := .map 304 306, size := 1, bytes := 8, zero := some (.nilm), eqok := true } := by kernel_rfl
@[go_sem] theorem tab295 : mkTab Tryz.prog 295 = some { k := .struct [(294, 0), (130, 1), (3, 2), (3, 3), (3, 4), (3, 5)] true, size := 6, bytes := 64, zero := some (.agg [.nilm, .nils, .int .i64 0, .int .i64 0, .int .i64 0, .int .i64 0]), eqok := true } := by kernel_rfl
@[go_sem] theorem tab296 : mkTab Tryz.prog 296 = some { k := .struct [(294, 0), (130, 1), (3, 2), (3, 3), (3, 4), (3, 5)] true, size := 6, bytes := 64, zero := some (.agg [.nilm, .nils, .int .i64 0, .int .i64 0, .int .i64 0, .int .i64 0]), eqok := true } := by kernel_rfl
@[go_sem] theorem tab297 : mkTab Tryz.prog 297 = some { k := .func, size := 1, bytes := 8, zero := some (.nilf), eqok := true } := by kernel_rfl
@[go_sem] theorem tab298 : mkTab Tryz.prog 298 = some { k := .func, size := 1, bytes := 8, zero := some (.nilf), eqok := true } := by kernel_rfl
@[go_sem] theorem tab299 : mkTab Tryz.prog 299 = some { k := .func, size := 1, bytes := 8, zero := some (.nilf), eqok := true } := by kernel_rfl
@[go_sem] theorem tab300 : mkTab Tryz.prog 300 = some { k := .func, size := 1, bytes := 8, zero := some (.nilf), eqok := true } := by kernel_rfl
@[go_sem] theorem tab301 : mkTab Tryz.prog 301 = some { k := .slice 5, size := 1, bytes := 24, zero := some (.nils), eqok := true } := by kernel_rfl
@[go_sem] theorem tab302 : mkTab Tryz.prog 302 = some { k := .func, size := 1, bytes := 8, zero := some (.nilf), eqok := true } := by kernel_rfl
@[go_sem] theorem tab303 : mkTab Tryz.prog 303 = some { k := .struct [(115, 0), (115, 4), (3, 8), (3, 9)] true, size := 10, bytes := 24, zero := some (.agg [.int .u8 0, .int .u8 0, .int .u8 0, .int .u8 0, .int .u8 0, .int .u8 0, .int .u8 0, .int .u8 0, .int .i64 0, .int .i64 0]), eqok := true } := by kernel_rfl
@[go_sem] theorem tab304 : mkTab Tryz.prog 304 = some { k := .struct [(115, 0), (115, 4), (3, 8), (3, 9)] true, size := 10, bytes := 24, zero := some (.agg [.int .u8 0, .int .u8 0, .int .u8 0, .int .u8 0, .int .u8 0, .int .u8 0, .int .u8 0, .int .u8 0, .int .i64 0, .int .i64 0]), eqok := true } := by kernel_rfl
@[go_sem] theorem tab305 : mkTab Tryz.prog 305 = some { k := .func, size := 1, bytes := 8, zero := some (.nilf), eqok := true } := by kernel_rfl
@[go_sem] theorem tab306 : mkTab Tryz.prog 306 = some { k := .ptr 309, size := 1, bytes := 8, zero := some (.nilp), eqok := true } := by kernel_rfl
@[go_sem] theorem tab307 : mkTab Tryz.prog 307 = some { k := .func, size := 1, bytes := 8, zero := some (.nilf), eqok := true } := by kernel_rfl
@[go_sem] theorem tab308 : mkTab Tryz.prog 308 = some { k := .struct [(3, 0), (301, 1)] true, size := 2, bytes := 32, zero := some (.agg [.int .i64 0, .nils]), eqok := true } := by kernel_rfl
@[go_sem] theorem tab309 : mkTab Tryz.prog 309 = some { k := .struct [(3, 0), (301, 1)] true, size := 2, bytes := 32, zero := some (.agg [.int .i64 0, .nils]), eqok := true } := by kernel_rfl
@[go_sem] theorem tab310 : mkTab Tryz.prog 310 = some { k := .func, size := 1, bytes := 8, zero := some (.nilf), eqok := true } := by kernel_rfl
@[go_sem] theorem tab311 : mkTab Tryz.prog 311 = some { k := .func, size := 1, bytes := 8, zero := some (.nilf), eqok := true } := by kernel_rfl
@[go_sem] theorem tab312 : mkTab Tryz.prog 312 = some { k := .func, size := 1, bytes := 8, zero := some (.nilf), eqok := true } := by kernel_rfl
@[go_sem] theorem tab313 : mkTab Tryz.prog 313 = some { k := .func, size := 1, bytes := 8, zero := some (.nilf), eqok := true } := by kernel_rfl
@[go_sem] theorem tab314 : mkTab Tryz.prog 314 = some { k := .func, size := 1, bytes := 8, zero := some (.nilf), eqok := true } := by kernel_rfl
@[go_sem] theorem tab315 : mkTab Tryz.prog 315 = some { k := .func, size := 1, bytes := 8, zero := some (.nilf), eqok := true } := by kernel_rfl
@[go_sem] theorem tab316 : mkTab Tryz.prog 316 = some { k := .map 3 319, size := 1, bytes := 8, zero := some (.nilm), eqok := true } := by kernel_rfl
@[go_sem] theorem tab317 : mkTab Tryz.prog 317 = some { k := .struct [(27, 0), (3, 6), (316, 7), (111, 8), (3, 9), (172, 10)] true, size := 11, bytes := 152, zero := some (.agg [.int .i64 0, .nils, .int .i64 0, .nils, .nils, .nils, .int .i64 0, .nilm, .nilp, .int .i64 0, .nilm]), eqok := true } := by kernel_rfl
@[go_sem] theorem tab318 : mkTab Tryz.prog 318 = some { k := .struct [(27, 0), (3, 6), (316, 7), (111, 8), (3, 9), (172, 10)] true, size := 11, bytes := 152, zero := some (.agg [.int .i64 0, .nils, .int .i64 0, .nils, .nils, .nils, .int .i64 0, .nilm, .nilp, .int .i64 0, .nilm]), eqok := true } := by kernel_rfl
@[go_sem] theorem tab319 : mkTab Tryz.prog 319 = some { k := .ptr 324, size := 1, bytes := 8, zero := some (.nilp), eqok := true } := by kernel_rfl
@[go_sem] theorem tab320 : mkTab Tryz.prog 320 = some { k := .ptr 438, size := 1, bytes := 8, zero := some (.nilp), eqok := true } := by kernel_rfl
@[go_sem] theorem tab321 : mkTab Tryz.prog 321 = some { k := .arr 2 320, size := 2, bytes := 16, zero := some (.agg [.nilp, .nilp]), eqok := true } := by kernel_rfl
@[go_sem] theorem tab322 : mkTab Tryz.prog 322 = some { k := .ptr 441, size := 1, bytes := 8, zero := some (.nilp), eqok := true } := by kernel_rfl
@[go_sem] theorem tab323 : mkTab Tryz.prog 323 = some { k := .struct [(44, 0), (321, 8), (322, 10)] true, size := 11, bytes := 104, zero := some (.agg [.int .i64 0, .int .i64 0, .int .i64 0, .int .i64 0, .bool false, .int .i64 0, .int .i64 0, .nils, .nilp, .nilp, .nilp]), eqok := true } := by kernel_rfl
@[go_sem] theorem tab324 : mkTab Tryz.prog 324 = some { k := .struct [(44, 0), (321, 8), (322, 10)] true, size := 11, bytes := 104, zero := some (.agg [.int .i64 0, .int .i64 0, .int .i64 0, .int .i64 0, .bool false, .int .i64 0, .int .i64 0, .nils, .nilp, .nilp, .nilp]), eqok := true } := by kernel_rfl
@[go_sem] theorem tab325 : mkTab Tryz.prog 325 = some { k := .func, size := 1, bytes := 8, zero := some (.nilf), eqok := true } := by kernel_rfl
@[go_sem] theorem tab327 : mkTab Tryz.prog 327 = some { k := .func, size := 1, bytes := 8, zero := some (.nilf), eqok := true } := by kernel_rfl
@[go_sem] theorem tab328 : mkTab Tryz.prog 328 = some { k := .ptr 330, size := 1, bytes := 8, zero := some (.nilp), eqok := true } := by kernel_rfl
@[go_sem] theorem tab329 : mkTab Tryz.prog 329 = some { k := .struct [(68, 0), (319, 5), (3, 6), (3, 7), (9, 8), (117, 9), (4, 23), (147, 24)] true, size := 27, bytes := 192, zero := some (.agg [.int .i64 0, .int .i64 0, .int .i64 0, .int .i64 0, .str ⟨#[]⟩, .nilp, .int .i64 0, .int .i64 0, .str ⟨#[]⟩, .int .i64 0, .bool false, .int .i64 0, .int .i64 0, .int .i64 0, .int .u8 0, .int .u8 0, .int .u8 0, .int .u8 0, .int .u8 0, .int .u8 0, .int .u8 0, .int .u8 0, .str ⟨#[]⟩, .bool false, .int .i64 0, .int .i64 0, .str ⟨#[]⟩]), eqok := true } := by kernel_rfl
@[go_sem] theorem tab330 : mkTab Tryz.prog 330 = some { k := .struct [(68, 0), (319, 5), (3, 6), (3, 7), (9, 8), (117, 9), (4, 23), (147, 24)] true, size := 27, bytes := 192, zero := some (.agg [.int .i64 0, .int .i64 0, .int .i64 0, .int .i64 0, .str ⟨#[]⟩, .nilp, .int .i64 0, .int .i64 0, .str ⟨#[]⟩, .int .i64 0, .bool false, .int .i64 0, .int .i64 0, .int .i64 0, .int .u8 0, .int .u8 0, .int .u8 0, .int .u8 0, .int .u8 0, .int .u8 0, .int .u8 0, .int .u8 0, .str ⟨#[]⟩, .bool false, .int .i64 0, .int .i64 0, .str ⟨#[]⟩]), eqok := true } := by kernel_rfl
@[go_sem] theorem tab331 : mkTab Tryz.prog 331 = some { k := .func, size := 1, bytes := 8, zero := some (.nilf), eqok := true } := by kernel_rfl
@[go_sem] theorem tab332 : mkTab Tryz.prog 332 = some { k := .ptr 491, size := 1, bytes := 8, zero := some (.nilp), eqok := true } := by kernel_rfl
@[go_sem] theorem tab333 : mkTab Tryz.prog 333 = some { k := .func, size := 1, bytes := 8, zero := some (.nilf), eqok := true } := by kernel_rfl
@[go_sem] theorem tab334 : mkTab Tryz.prog 334 = some { k := .slice 341, size := 1, bytes := 24, zero := some (.nils), eqok := true } := by kernel_rfl
@[go_sem] theorem tab335 : mkTab Tryz.prog 335 = some { k := .struct [(27, 0), (3, 6), (334, 7), (332, 8), (3, 9), (207, 10)] true, size := 11, bytes := 184, zero := some (.agg [.int .i64 0, .nils, .int .i64 0, .nils, .nils, .nils, .int .i64 0, .nils, .nilp, .int .i64 0, .nils]), eqok := true } := by kernel_rfl
@[go_sem] theorem tab336 : mkTab Tryz.prog 336 = some { k := .struct [(27, 0), (3, 6), (334, 7), (332, 8), (3, 9), (207, 10)] true, size := 11, bytes := 184, zero := some (.agg [.int .i64 0, .nils, .int .i64 0, .nils, .nils, .nils, .int .i64 0, .nils, .nilp, .int .i64 0, .nils]), eqok := true } := by kernel_rfl
@[go_sem] theorem tab337 : mkTab Tryz.prog 337 = some { k := .func, size := 1, bytes := 8, zero := some (.nilf), eqok := true } := by kernel_rfl
@[go_sem] theorem tab338 : mkTab Tryz.prog 338 = some { k := .ptr 351, size := 1, bytes := 8, zero := some (.nilp), eqok := true } := by kernel_rfl
@[go_sem] theorem tab340 : mkTab Tryz.prog 340 = some { k := .func, size := 1, bytes := 8, zero := some (.nilf), eqok := true } := by kernel_rfl
@[go_sem] theorem tab341 : mkTab Tryz.prog 341 = some { k := .ptr 345, size := 1, bytes := 8, zero := some (.nilp), eqok := true } := by kernel_rfl
@[go_sem] theorem tab342 : mkTab Tryz.prog 342 = some { k := .ptr 348, size := 1, bytes := 8, zero := some (.nilp), eqok := true } := by kernel_rfl
@[go_sem] theorem tab343 : mkTab Tryz.prog 343 = some { k := .func, size := 1, bytes := 8, zero := some (.nilf), eqok := true } := by kernel_rfl
@[go_sem] theorem tab344 : mkTab Tryz.prog 344 = some { k := .struct [(44, 0), (342, 8), (342, 9), (338, 10)] true, size := 11, bytes := 104, zero := some (.agg [.int .i64 0, .int .i64 0, .int .i64 0, .int .i64 0, .bool false, .int .i64 0, .int .i64 0, .nils, .nilp, .nilp, .nilp]), eqok := true } := by kernel_rfl
@[go_sem] theorem tab345 : mkTab Tryz.prog 345 = some { k := .struct [(44, 0), (342, 8), (342, 9), (338, 10)] true, size := 11, bytes := 104, zero := some (.agg [.int .i64 0, .int .i64 0, .int .i64 0, .int .i64 0, .bool false, .int .i64 0, .int .i64 0, .nils, .nilp, .nilp, .nilp]), eqok := true } := by kernel_rfl
@[go_sem] theorem tab346 : mkTab Tryz.prog 346 = some { k := .func, size := 1, bytes := 8, zero := some (.nilf), eqok := true } := by kernel_rfl
@[go_sem] theorem tab347 : mkTab Tryz.prog 347 = some { k := .struct [(3, 0), (3, 1), (3, 2), (3, 3)] true, size := 4, bytes := 32, zero := some (.agg [.int .i64 0, .int .i64 0, .int .i64 0, .int .i64 0]), eqok := true } := by kernel_rfl
@[go_sem] theorem tab348 : mkTab Tryz.prog 348 = some { k := .struct [(3, 0), (3, 1), (3, 2), (3, 3)] true, size := 4, bytes := 32, zero := some (.agg [.int .i64 0, .int .i64 0, .int .i64 0, .int .i64 0]), eqok := true } := by kernel_rfl
@[go_sem] theorem tab349 : mkTab Tryz.prog 349 = some { k := .slice 495, size := 1, bytes := 24, zero := some (.nils), eqok := true } := by kernel_rfl
@[go_sem] theorem tab350 : mkTab Tryz.prog 350 = some { k := .struct [(349, 0), (3, 1), (3, 2), (3, 3), (3, 4), (3, 5)] true, size := 6, bytes := 64, zero := some (.agg [.nils, .int .i64 0, .int .i64 0, .int .i64 0, .int .i64 0, .int .i64 0]), eqok := true } := by kernel_rfl
@[go_sem] theorem tab351 : mkTab Tryz.prog 351 = some { k := .struct [(349, 0), (3, 1), (3, 2), (3, 3), (3, 4), (3, 5)] true, size := 6, bytes := 64, zero := some (.agg [.nils, .int .i64 0, .int .i64 0, .int .i64 0, .int .i64 0, .int .i64 0]), eqok := true } := by kernel_rfl
@[go_sem] theorem tab352 : mkTab Tryz.prog 352 = some { k := .arr 6 5, size := 6, bytes := 6, zero := some (.agg [.int .u8 0, .int .u8 0, .int .u8 0, .int .u8 0, .int .u8 0, .int .u8 0]), eqok := true } := by kernel_rfl
@[go_sem] theorem tab353 : mkTab Tryz.prog 353 = some { k := .arr 6 5, size := 6, bytes := 6, zero := some (.agg [.int .u8 0, .int .u8 0, .int .u8 0, .int .u8 0, .int .u8 0, .int .u8 0]), eqok := true } := by kernel_rfl
@[go_sem] theorem tab355 : mkTab Tryz.prog 355 = some { k := .func, size := 1, bytes := 8, zero := some (.nilf), eqok := true } := by kernel_rfl
@[go_sem] theorem tab356 : mkTab Tryz.prog 356 = some { k := .func, size := 1, bytes := 8, zero := some (.nilf), eqok := true } := by kernel_rfl
@[go_sem] theorem tab357 : mkTab Tryz.prog 357 = some { k := .ptr 359, size := 1, bytes := 8, zero := some (.nilp), eqok := true } := by kernel_rfl
@[go_sem] theorem tab358 : mkTab Tryz.prog 358 = some { k := .struct [(301, 0), (4, 1)] true, size := 2, bytes := 32, zero := some (.agg [.nils, .bool false]), eqok := true } := by kernel_rfl
@[go_sem] theorem tab359 : mkTab Tryz.prog 359 = some { k := .struct [(301, 0), (4, 1)] true, size := 2, bytes := 32, zero := some (.agg [.nils, .bool false]), eqok := true } := by kernel_rfl
@[go_sem] theorem tab360 : mkTab Tryz.prog 360 = some { k := .func, size := 1, bytes := 8, zero := some (.nilf), eqok := true } := by kernel_rfl
@[go_sem] theorem tab361 : mkTab Tryz.prog 361 = some { k := .func, size := 1, bytes := 8, zero := some (.nilf), eqok := true } := by kernel_rfl
@[go_sem] theorem tab362 : mkTab Tryz.prog 362 = some { k := .func, size := 1, bytes := 8, zero := some (.nilf), eqok := true } := by kernel_rfl
@[go_sem] theorem tab363 : mkTab Tryz.prog 363 = some { k := .func, size := 1, bytes := 8, zero := some (.nilf), eqok := true } := by kernel_rfl
@[go_sem] theorem tab364 : mkTab Tryz.prog 364 = some { k := .arr 2 3, size := 2, bytes := 16, zero := some (.agg [.int .i64 0, .int .i64 0]), eqok := true } := by kernel_rfl
@[go_sem] theorem tab365 : mkTab Tryz.prog 365 = some { k := .slice 508, size := 1, bytes := 24, zero := some (.nils), eqok := true } := by kernel_rfl
@[go_sem] theorem tab366 : mkTab Tryz.prog 366 = some { k := .arr 2 365, size := 2, bytes := 48, zero := some (.agg [.nils, .nils]), eqok := true } := by kernel_rfl
@[go_sem] theorem tab367 : mkTab Tryz.prog 367 = some { k := .struct [(366, 0), (364, 2), (364, 4), (4, 6), (199, 7), (195, 11), (3, 12)] true, size := 13, bytes := 160, zero := some (.agg [.nils, .nils, .int .i64 0, .int .i64 0, .int .i64 0, .int .i64 0, .bool false, .int .i64 0, .str ⟨#[]⟩, .int .i64 0, .int .i64 0, .nils, .int .i64 0]), eqok := true } := by kernel_rfl
@[go_sem] theorem tab368 : mkTab Tryz.prog 368 = some { k := .struct [(366, 0), (364, 2), (364, 4), (4, 6), (199, 7), (195, 11), (3, 12)] true, size := 13, bytes := 160, zero := some (.agg [.nils, .nils, .int .i64 0, .int .i64 0, .int .i64 0, .int .i64 0, .bool false, .int .i64 0, .str ⟨#[]⟩, .int .i64 0, .int .i64 0, .nils, .int .i64 0]), eqok := true } := by kernel_rfl
@[go_sem] theorem tab369 : mkTab Tryz.prog 369 = some { k := .struct [(184, 0), (3, 4), (3, 5), (3, 6), (3, 7)] true, size := 8, bytes := 64, zero := some (.agg [.int .i64 0, .int .i64 0, .int .i64 0, .bool false, .int .i64 0, .int .i64 0, .int .i64 0, .int .i64 0]), eqok := true } := by kernel_rfl
@[go_sem] theorem tab370 : mkTab Tryz.prog 370 = some { k := .struct [(184, 0), (3, 4), (3, 5), (3, 6), (3, 7)] true, size := 8, bytes := 64, zero := some (.agg [.int .i64 0, .int .i64 0, .int .i64 0, .bool false, .int .i64 0, .int .i64 0, .int .i64 0, .int .i64 0]), eqok := true } := by kernel_rfl
@[go_sem] theorem tab371 : mkTab Tryz.prog 371 = some { k := .struct [(3, 0), (185, 1), (9, 2)] true, size := 3, bytes := 32, zero := some (.agg [.int .i64 0, .nilp, .str ⟨#[]⟩]), eqok := true } := by kernel_rfl
@[go_sem] theorem tab372 : mkTab Tryz.prog 372 = some { k := .struct [(3, 0), (185, 1), (9, 2)] true, size := 3, bytes := 32, zero := some (.agg [.int .i64 0, .nilp, .str ⟨#[]⟩]), eqok := true } := by kernel_rfl
@[go_sem] theorem tab373 : mkTab Tryz.prog 373 = some { k := .func, size := 1, bytes := 8, zero := some (.nilf), eqok := true } := by kernel_rfl
@[go_sem] theorem tab374 : mkTab Tryz.prog 374 = some { k := .func, size := 1, bytes := 8, zero := some (.nilf), eqok := true } := by kernel_rfl
@[go_sem] theorem tab375 : mkTab Tryz.prog 375 = some { k := .func, size := 1, bytes := 8, zero := some (.nilf), eqok := true } := by kernel_rfl
@[go_sem] theorem tab377 : mkTab Tryz.prog 377 = some { k := .func, size := 1, bytes := 8, zero := some (.nilf), eqok := true } := by kernel_rfl
@[go_sem] theorem tab378 : mkTab Tryz.prog 378 = some { k := .struct [(9, 0), (34, 1)] true, size := 2, bytes := 24, zero := some (.agg [.str ⟨#[]⟩, .int .i64 0]), eqok := true } := by kernel_rfl
@[go_sem] theorem tab379 : mkTab Tryz.prog 379 = some { k := .struct [(9, 0), (34, 1)] true, size := 2, bytes := 24, zero := some (.agg [.str ⟨#[]⟩, .int .i64 0]), eqok := true } := by kernel_rfl
@[go_sem] theorem tab380 : mkTab Tryz.prog 380 = some { k := .func, size := 1, bytes := 8, zero := some (.nilf), eqok := true } := by kernel_rfl
@[go_sem] theorem tab381 : mkTab Tryz.prog 381 = some { k := .func, size := 1, bytes := 8, zero := some (.nilf), eqok := true } := by kernel_rfl
@[go_sem] theorem tab382 : mkTab Tryz.prog 382 = some { k := .func, size := 1, bytes := 8, zero := some (.nilf), eqok := true } := by kernel_rfl
@[go_sem] theorem tab383 : mkTab Tryz.prog 383 = some { k := .slice 476, size := 1, bytes := 24, zero := some (.nils), eqok := true } := by kernel_rfl
@[go_sem] theorem tab384 : mkTab Tryz.prog 384 = some { k := .struct [(383, 0), (219, 1), (219, 2), (3, 3), (3, 4), (3, 5), (3, 6), (3, 7)] true, size := 8, bytes := 112, zero := some (.agg [.nils, .nils, .nils, .int .i64 0, .int .i64 0, .int .i64 0, .int .i64 0, .int .i64 0]), eqok := true } := by kernel_rfl
@[go_sem] theorem tab385 : mkTab Tryz.prog 385 = some { k := .struct [(383, 0), (219, 1), (219, 2), (3, 3), (3, 4), (3, 5), (3, 6), (3, 7)] true, size := 8, bytes := 112, zero := some (.agg [.nils, .nils, .nils, .int .i64 0, .int .i64 0, .int .i64 0, .int .i64 0, .int .i64 0]), eqok := true } := by kernel_rfl
@[go_sem] theorem tab386 : mkTab Tryz.prog 386 = some { k := .func, size := 1, bytes := 8, zero := some (.nilf), eqok := true } := by kernel_rfl
@[go_sem] theorem tab387 : mkTab Tryz.prog 387 = some { k := .struct [(47, 0), (3, 4), (3, 5), (3, 6), (3, 7)] true, size := 8, bytes := 64, zero := some (.agg [.int .i64 0, .int .i64 0, .int .i64 0, .bool false, .int .i64 0, .int .i64 0, .int .i64 0, .int .i64 0]), eqok := true } := by kernel_rfl
@[go_sem] theorem tab388 : mkTab Tryz.prog 388 = some { k := .struct [(47, 0), (3, 4), (3, 5), (3, 6), (3, 7)] true, size := 8, bytes := 64, zero := some (.agg [.int .i64 0, .int .i64 0, .int .i64 0, .bool false, .int .i64 0, .int .i64 0, .int .i64 0, .int .i64 0]), eqok := true } := by kernel_rfl
@[go_sem] theorem tab389 : mkTab Tryz.prog 389 = some { k := .struct [(3, 0), (44, 1), (9, 9)] true, size := 10, bytes := 104, zero := some (.agg [.int .i64 0, .int .i64 0, .int .i64 0, .int .i64 0, .int .i64 0, .bool false, .int .i64 0, .int .i64 0, .nils, .str ⟨#[]⟩]), eqok := true } := by kernel_rfl
@[go_sem] theorem tab390 : mkTab Tryz.prog 390 = some { k := .struct [(3, 0), (44, 1), (9, 9)] true, size := 10, bytes := 104, zero := some (.agg [.int .i64 0, .int .i64 0, .int .i64 0, .int .i64 0, .int .i64 0, .bool false, .int .i64 0, .int .i64 0, .nils, .str ⟨#[]⟩]), eqok := true } := by kernel_rfl
@[go_sem] theorem tab391 : mkTab Tryz.prog 391 = some { k := .func, size := 1, bytes := 8, zero := some (.nilf), eqok := true } := by kernel_rfl
@[go_sem] theorem tab392 : mkTab Tryz.prog 392 = some { k := .int .u32, size := 1, bytes := 4, zero := some (.int .u32 0), eqok := true } := by kernel_rfl
@[go_sem] theorem tab393 : mkTab Tryz.prog 393 = some { k := .func, size := 1, bytes := 8, zero := some (.nilf), eqok := true } := by kernel_rfl
@[go_sem] theorem tab394 : mkTab Tryz.prog 394 = some { k := .struct [(3, 0), (3, 1), (3, 2)] true, size := 3, bytes := 24, zero := some (.agg [.int .i64 0, .int .i64 0, .int .i64 0]), eqok := true } := by kernel_rfl
@[go_sem] theorem tab395 : mkTab Tryz.prog 395 = some { k := .struct [(3, 0), (3, 1), (3, 2)] true, size := 3, bytes := 24, zero := some (.agg [.int .i64 0, .int .i64 0, .int .i64 0]), eqok := true } := by kernel_rfl
@[go_sem] theorem tab396 : mkTab Tryz.prog 396 = some { k := .func, size := 1, bytes := 8, zero := some (.nilf), eqok := true } := by kernel_rfl
@[go_sem] theorem tab397 : mkTab Tryz.prog 397 = some { k := .func, size := 1, bytes := 8, zero := some (.nilf), eqok := true } := by kernel_rfl
@[go_sem] theorem tab398 : mkTab Tryz.prog 398 = some { k := .struct [(3, 0), (4, 1), (3, 2), (3, 3)] true, size := 4, bytes := 32, zero := some (.agg [.int .i64 0, .bool false, .int .i64 0, .int .i64 0]), eqok := true } := by kernel_rfl
@[go_sem] theorem tab399 : mkTab Tryz.prog 399 = some { k := .struct [(3, 0), (4, 1), (3, 2), (3, 3)] true, size := 4, bytes := 32, zero := some (.agg [.int .i64 0, .bool false, .int .i64 0, .int .i64 0]), eqok := true } := by kernel_rfl
@[go_sem] theorem tab400 : mkTab Tryz.prog 400 = some { k := .func, size := 1, bytes := 8, zero := some (.nilf), eqok := true } := by kernel_rfl
@[go_sem] theorem tab401 : mkTab Tryz.prog 401 = some { k := .func, size := 1, bytes := 8, zero := some (.nilf), eqok := true } := by kernel_rfl
@[go_sem] theorem tab402 : mkTab Tryz.prog 402 = some { k := .struct [(195, 0), (3, 1), (3, 2)] true, size := 3, bytes := 40, zero := some (.agg [.nils, .int .i64 0, .int .i64 0]), eqok := true } := by kernel_rfl
@[go_sem] theorem tab403 : mkTab Tryz.prog 403 = some { k := .struct [(195, 0), (3, 1), (3, 2)] true, size := 3, bytes := 40, zero := some (.agg [.nils, .int .i64 0, .int .i64 0]), eqok := true } := by kernel_rfl
@[go_sem] theorem tab404 : mkTab Tryz.prog 404 = some { k := .arr 4 66, size := 4, bytes := 96, zero := some (.agg [.nils, .nils, .nils, .nils]), eqok := true } := by kernel_rfl
@[go_sem] theorem tab405 : mkTab Tryz.prog 405 = some { k := .struct [(404, 0), (3, 4), (3, 5), (3, 6), (3, 7)] true, size := 8, bytes := 128, zero := some (.agg [.nils, .nils, .nils, .nils, .int .i64 0, .int .i64 0, .int .i64 0, .int .i64 0]), eqok := true } := by kernel_rfl
@[go_sem] theorem tab406 : mkTab Tryz.prog 406 = some { k := .struct [(404, 0), (3, 4), (3, 5), (3, 6), (3, 7)] true, size := 8, bytes := 128, zero := some (.agg [.nils, .nils, .nils, .nils, .int .i64 0, .int .i64 0, .int .i64 0, .int .i64 0]), eqok := true } := by kernel_rfl
@[go_sem] theorem tab407 : mkTab Tryz.prog 407 = some { k := .struct [(4, 0), (3, 1)] true, size := 2, bytes := 16, zero := some (.agg [.bool false, .int .i64 0]), eqok := true } := by kernel_rfl
@[go_sem] theorem tab408 : mkTab Tryz.prog 408 = some { k := .struct [(4, 0), (3, 1)] true, size := 2, bytes := 16, zero := some (.agg [.bool false, .int .i64 0]), eqok := true } := by kernel_rfl
@[go_sem] theorem tab409 : mkTab Tryz.prog 409 = some { k := .struct [(240, 0), (408, 1), (3, 3), (3, 4)] true, size := 5, bytes := 40, zero := some (.agg [.int .u64 0, .bool false, .int .i64 0, .int .i64 0, .int .i64 0]), eqok := true } := by kernel_rfl
@[go_sem] theorem tab410 : mkTab Tryz.prog 410 = some { k := .struct [(240, 0), (408, 1), (3, 3), (3, 4)] true, size := 5, bytes := 40, zero := some (.agg [.int .u64 0, .bool false, .int .i64 0, .int .i64 0, .int .i64 0]), eqok := true } := by kernel_rfl
@[go_sem] theorem tab411 : mkTab Tryz.prog 411 = some { k := .struct [(3, 0), (4, 1), (3, 2), (3, 3), (3, 4)] true, size := 5, bytes := 40, zero := some (.agg [.int .i64 0, .bool false, .int .i64 0, .int .i64 0, .int .i64 0]), eqok := true } := by kernel_rfl
@[go_sem] theorem tab412 : mkTab Tryz.prog 412 = some { k := .struct [(3, 0), (4, 1), (3, 2), (3, 3), (3, 4)] true, size := 5, bytes := 40, zero := some (.agg [.int .i64 0, .bool false, .int .i64 0, .int .i64 0, .int .i64 0]), eqok := true } := by kernel_rfl
@[go_sem] theorem tab413 : mkTab Tryz.prog 413 = some { k := .func, size := 1, bytes := 8, zero := some (.nilf), eqok := true } := by kernel_rfl
@[go_sem] theorem tab415 : mkTab Tryz.prog 415 = some { k := .func, size := 1, bytes := 8, zero := some (.nilf), eqok := true } := by kernel_rfl
@[go_sem] theorem tab416 : mkTab Tryz.prog 416 = some { k := .func, size := 1, bytes := 8, zero := some (.nilf), eqok := true } := by kernel_rfl
@[go_sem] theorem tab418 : mkTab Tryz.prog 418 = some { k := .func, size := 1, bytes := 8, zero := some (.nilf), eqok := true } := by kernel_rfl
@[go_sem] theorem tab419 : mkTab Tryz.prog 419 = some { k := .func, size := 1, bytes := 8, zero := some (.nilf), eqok := true } := by kernel_rfl
@[go_sem] theorem tab420 : mkTab Tryz.prog 420 = some { k := .func, size := 1, bytes := 8, zero := some (.nilf), eqok := true } := by kernel_rfl
@[go_sem] theorem tab421 : mkTab Tryz.prog 421 = some { k := .slice 117, size := 1, bytes := 24, zero := some (.nils), eqok := true } := by kernel_rfl
@[go_sem] theorem tab423 : mkTab Tryz.prog 423 = some { k := .func, size := 1, bytes := 8, zero := some (.nilf), eqok := true } := by kernel_rfl
@[go_sem] theorem tab424 : mkTab Tryz.prog 424 = some { k := .func, size := 1, bytes := 8, zero := some (.nilf), eqok := true } := by kernel_rfl
@[go_sem] theorem tab425 : mkTab Tryz.prog 425 = some { k := .func, size := 1, bytes := 8, zero := some (.nilf), eqok := true } := by kernel_rfl
@[go_sem] theorem tab426 : mkTab Tryz.prog 426 = some { k := .func, size := 1, bytes := 8, zero := some (.nilf), eqok := true } := by kernel_rfl
@[go_sem] theorem tab427 : mkTab Tryz.prog 427 = some { k := .func, size := 1, bytes := 8, zero := some (.nilf), eqok := true } := by kernel_rfl
@[go_sem] theorem tab428 : mkTab Tryz.prog 428 = some { k := .func, size := 1, bytes := 8, zero := some (.nilf), eqok := true } := by kernel_rfl
@[go_sem] theorem tab429 : mkTab Tryz.prog 429 = some { k := .func, size := 1, bytes := 8, zero := some (.nilf), eqok := true } := by kernel_rfl
@[go_sem] theorem tab430 : mkTab Tryz.prog 430 = some { k := .struct [(3, 0), (9, 1)] true, size := 2, bytes := 24, zero := some (.agg [.int .i64 0, .str ⟨#[]⟩]), eqok := true } := by kernel_rfl
@[go_sem] theorem tab431 : mkTab Tryz.prog 431 = some { k := .struct [(3, 0), (9, 1)] true, size := 2, bytes := 24, zero := some (.agg [.int .i64 0, .str ⟨#[]⟩]), eqok := true } := by kernel_rfl
@[go_sem] theorem tab432 : mkTab Tryz.prog 432 = some { k := .func, size := 1, bytes := 8, zero := some (.nilf), eqok := true } := by kernel_rfl
@[go_sem] theorem tab433 : mkTab Tryz.prog 433 = some { k := .int .u64, size := 1, bytes := 8, zero := some (.int .u64 0), eqok := true } := by kernel_rfl
@[go_sem] theorem tab434 : mkTab Tryz.prog 434 = some { k := .int .u16, size := 1, bytes := 2, zero := some (.int .u16 0), eqok := true } := by kernel_rfl
@[go_sem] theorem tab435 : mkTab Tryz.prog 435 = some { k := .func, size := 1, bytes := 8, zero := some (.nilf), eqok := true } := by kernel_rfl
@[go_sem] theorem tab436 : mkTab Tryz.prog 436 = some { k := .func, size := 1, bytes := 8, zero := some (.nilf), eqok := true } := by kernel_rfl
@[go_sem] theorem tab437 : mkTab Tryz.prog 437 = some { k := .struct [(4, 0), (3, 1), (3, 2), (4, 3), (3, 4), (3, 5)] true, size := 6, bytes := 48, zero := some (.agg [.bool false, .int .i64 0, .int .i64 0, .bool false, .int .i64 0, .int .i64 0]), eqok := true } := by kernel_rfl
@[go_sem] theorem tab438 : mkTab Tryz.prog 438 = some { k := .struct [(4, 0), (3, 1), (3, 2), (4, 3), (3, 4), (3, 5)] true, size := 6, bytes := 48, zero := some (.agg [.bool false, .int .i64 0, .int .i64 0, .bool false, .int .i64 0, .int .i64 0]), eqok := true } := by kernel_rfl
@[go_sem] theorem tab439 : mkTab Tryz.prog 439 = some { k := .slice 519, size := 1, bytes := 24, zero := some (.nils), eqok := true } := by kernel_rfl
@[go_sem] theorem tab440 : mkTab Tryz.prog 440 = some { k := .struct [(439, 0), (3, 1), (3, 2), (3, 3), (3, 4), (3, 5)] true, size := 6, bytes := 64, zero := some (.agg [.nils, .int .i64 0, .int .i64 0, .int .i64 0, .int .i64 0, .int .i64 0]), eqok := true } := by kernel_rfl
@[go_sem] theorem tab441 : mkTab Tryz.prog 441 = some { k := .struct [(439, 0), (3, 1), (3, 2), (3, 3), (3, 4), (3, 5)] true, size := 6, bytes := 64, zero := some (.agg [.nils, .int .i64 0, .int .i64 0, .int .i64 0, .int .i64 0, .int .i64 0]), eqok := true } := by kernel_rfl
@[go_sem] theorem tab442 : mkTab Tryz.prog 442 = some { k := .slice 331, size := 1, bytes := 24, zero := some (.nils), eqok := true } := by kernel_rfl
@[go_sem] theorem tab444 : mkTab Tryz.prog 444 = some { k := .func, size := 1, bytes := 8, zero := some (.nilf), eqok := true } := by kernel_rfl
@[go_sem] theorem tab445 : mkTab Tryz.prog 445 = some { k := .func, size := 1, bytes := 8, zero := some (.nilf), eqok := true } := by kernel_rfl
@[go_sem] theorem tab447 : mkTab Tryz.prog 447 = some { k := .func, size := 1, bytes := 8, zero := some (.nilf), eqok := true } := by kernel_rfl
@[go_sem] theorem tab449 : mkTab Tryz.prog 449 = some { k := .func, size := 1, bytes := 8, zero := some (.nilf), eqok := true } := by kernel_rfl
@[go_sem] theorem tab451 : mkTab Tryz.prog 451 = some { k := .func, size := 1, bytes := 8, zero := some (.nilf), eqok := true } := by kernel_rfl
@[go_sem] theorem tab453 : mkTab Tryz.prog 453 = some { k := .func, size := 1, bytes := 8, zero := some (.nilf), eqok := true } := by kernel_rfl
@[go_sem] theorem tab455 : mkTab Tryz.prog 455 = some { k := .func, size := 1, bytes := 8, zero := some (.nilf), eqok := true } := by kernel_rfl
@[go_sem] theorem tab456 : mkTab Tryz.prog 456 = some { k := .func, size := 1, bytes := 8, zero := some (.nilf), eqok := true } := by kernel_rfl
@[go_sem] theorem tab458 : mkTab Tryz.prog 458 = some { k := .func, size := 1, bytes := 8, zero := some (.nilf), eqok := true } := by kernel_rfl
@[go_sem] theorem tab459 : mkTab Tryz.prog 459 = some { k := .func, size := 1, bytes := 8, zero := some (.nilf), eqok := true } := by kernel_rfl
@[go_sem] theorem tab460 : mkTab Tryz.prog 460 = some { k := .ptr 462, size := 1, bytes := 8, zero := some (.nilp), eqok := true } := by kernel_rfl
@[go_sem] theorem tab461 : mkTab Tryz.prog 461 = some { k := .struct [(460, 0), (301, 1)] true, size := 2, bytes := 32, zero := some (.agg [.nilp, .nils]), eqok := true } := by kernel_rfl
@[go_sem] theorem tab462 : mkTab Tryz.prog 462 = some { k := .struct [(460, 0), (301, 1)] true, size := 2, bytes := 32, zero := some (.agg [.nilp, .nils]), eqok := true } := by kernel_rfl
@[go_sem] theorem tab463 : mkTab Tryz.prog 463 = some { k := .iface false, size := 1, bytes := 16, zero := some (.nili), eqok := true } := by kernel_rfl
@[go_sem] theorem tab464 : mkTab Tryz.prog 464 = some { k := .iface false, size := 1, bytes := 16, zero := some (.nili), eqok := true } := by kernel_rfl
@[go_sem] theorem tab466 : mkTab Tryz.prog 466 = some { k := .func, size := 1, bytes := 8, zero := some (.nilf), eqok := true } := by kernel_rfl
@[go_sem] theorem tab467 : mkTab Tryz.prog 467 = some { k := .func, size := 1, bytes := 8, zero := some (.nilf), eqok := true } := by kernel_rfl
@[go_sem] theorem tab469 : mkTab Tryz.prog 469 = some { k := .func, size := 1, bytes := 8, zero := some (.nilf), eqok := true } := by kernel_rfl
@[go_sem] theorem tab470 : mkTab Tryz.prog 470 = some { k := .func, size := 1, bytes := 8, zero := some (.nilf), eqok := true } := by kernel_rfl
@[go_sem] theorem tab471 : mkTab Tryz.prog 471 = some { k := .func, size := 1, bytes := 8, zero := some (.nilf), eqok := true } := by kernel_rfl
@[go_sem] theorem tab472 : mkTab Tryz.prog 472 = some { k := .func, size := 1, bytes := 8, zero := some (.nilf), eqok := true } := by kernel_rfl
@[go_sem] theorem tab473 : mkTab Tryz.prog 473 = some { k := .func, size := 1, bytes := 8, zero := some (.nilf), eqok := true } := by kernel_rfl
@[go_sem] theorem tab474 : mkTab Tryz.prog 474 = some { k := .func, size := 1, bytes := 8, zero := some (.nilf), eqok := true } := by kernel_rfl
@[go_sem] theorem tab475 : mkTab Tryz.prog 475 = some { k := .struct [(4, 0), (3, 1), (9, 2)] true, size := 3, bytes := 32, zero := some (.agg [.bool false, .int .i64 0, .str ⟨#[]⟩]), eqok := true } := by kernel_rfl
@[go_sem] theorem tab476 : mkTab Tryz.prog 476 = some { k := .struct [(4, 0), (3, 1), (9, 2)] true, size := 3, bytes := 32, zero := some (.agg [.bool false, .int .i64 0, .str ⟨#[]⟩]), eqok := true } := by kernel_rfl
@[go_sem] theorem tab477 : mkTab Tryz.prog 477 = some { k := .func, size := 1, bytes := 8, zero := some (.nilf), eqok := true } := by kernel_rfl
@[go_sem] theorem tab478 : mkTab Tryz.prog 478 = some { k := .func, size := 1, bytes := 8, zero := some (.nilf), eqok := true } := by kernel_rfl
@[go_sem] theorem tab479 : mkTab Tryz.prog 479 = some { k := .func, size := 1, bytes := 8, zero := some (.nilf), eqok := true } := by kernel_rfl
@[go_sem] theorem tab480 : mkTab Tryz.prog 480 = some { k := .func, size := 1, bytes := 8, zero := some (.nilf), eqok := true } := by kernel_rfl
@[go_sem] theorem tab481 : mkTab Tryz.prog 481 = some { k := .func, size := 1, bytes := 8, zero := some (.nilf), eqok := true } := by kernel_rfl
@[go_sem] theorem tab482 : mkTab Tryz.prog 482 = some { k := .func, size := 1, bytes := 8, zero := some (.nilf), eqok := true } := by kernel_rfl
@[go_sem] theorem tab483 : mkTab Tryz.prog 483 = some { k := .func, size := 1, bytes := 8, zero := some (.nilf), eqok := true } := by kernel_rfl
@[go_sem] theorem tab484 : mkTab Tryz.prog 484 = some { k := .func, size := 1, bytes := 8, zero := some (.nilf), eqok := true } := by kernel_rfl
@[go_sem] theorem tab485 : mkTab Tryz.prog 485 = some { k := .func, size := 1, bytes := 8, zero := some (.nilf), eqok := true } := by kernel_rfl
@[go_sem] theorem tab486 : mkTab Tryz.prog 486 = some { k := .func, size := 1, bytes := 8, zero := some (.nilf), eqok := true } := by kernel_rfl
@[go_sem] theorem tab487 : mkTab Tryz.prog 487 = some { k := .func, size := 1, bytes := 8, zero := some (.nilf), eqok := true } := by kernel_rfl
@[go_sem] theorem tab488 : mkTab Tryz.prog 488 = some { k := .func, size := 1, bytes := 8, zero := some (.nilf), eqok := true } := by kernel_rfl
@[go_sem] theorem tab489 : mkTab Tryz.prog 489 = some { k := .slice 493, size := 1, bytes := 24, zero := some (.nils), eqok := true } := by kernel_rfl
@[go_sem] theorem tab490 : mkTab Tryz.prog 490 = some { k := .struct [(489, 0), (3, 1), (3, 2), (3, 3), (3, 4)] true, size := 5, bytes := 56, zero := some (.agg [.nils, .int .i64 0, .int .i64 0, .int .i64 0, .int .i64 0]), eqok := true } := by kernel_rfl
@[go_sem] theorem tab491 : mkTab Tryz.prog 491 = some { k := .struct [(489, 0), (3, 1), (3, 2), (3, 3), (3, 4)] true, size := 5, bytes := 56, zero := some (.agg [.nils, .int .i64 0, .int .i64 0, .int .i64 0, .int .i64 0]), eqok := true } := by kernel_rfl
@[go_sem] theorem tab492 : mkTab Tryz.prog 492 = some { k := .struct [(286, 0), (3, 8), (9, 9)] true, size := 10, bytes := 112, zero := some (.agg [.int .i64 0, .bool false, .int .i64 0, .int .i64 0, .int .i64 0, .str ⟨#[]⟩, .str ⟨#[]⟩, .str ⟨#[]⟩, .int .i64 0, .str ⟨#[]⟩]), eqok := true } := by kernel_rfl
@[go_sem] theorem tab493 : mkTab Tryz.prog 493 = some { k := .struct [(286, 0), (3, 8), (9, 9)] true, size := 10, bytes := 112, zero := some (.agg [.int .i64 0, .bool false, .int .i64 0, .int .i64 0, .int .i64 0, .str ⟨#[]⟩, .str ⟨#[]⟩, .str ⟨#[]⟩, .int .i64 0, .str ⟨#[]⟩]), eqok := true } := by kernel_rfl
@[go_sem] theorem tab494 : mkTab Tryz.prog 494 = some { k := .struct [(3, 0), (3, 1), (4, 2), (4, 3)] true, size := 4, bytes := 24, zero := some (.agg [.int .i64 0, .int .i64 0, .bool false, .bool false]), eqok := true } := by kernel_rfl
@[go_sem] theorem tab495 : mkTab Tryz.prog 495 = some { k := .struct [(3, 0), (3, 1), (4, 2), (4, 3)] true, size := 4, bytes := 24, zero := some (.agg [.int .i64 0, .int .i64 0, .bool false, .bool false]), eqok := true } := by kernel_rfl
@[go_sem] theorem tab496 : mkTab Tryz.prog 496 = some { k := .func, size := 1, bytes := 8, zero := some (.nilf), eqok := true } := by kernel_rfl
@[go_sem] theorem tab497 : mkTab Tryz.prog 497 = some { k := .func, size := 1, bytes := 8, zero := some (.nilf), eqok := true } := by kernel_rfl
@[go_sem] theorem tab498 : mkTab Tryz.prog 498 = some { k := .func, size := 1, bytes := 8, zero := some (.nilf), eqok := true } := by kernel_rfl
@[go_sem] theorem tab500 : mkTab Tryz.prog 500 = some { k := .func, size := 1, bytes := 8, zero := some (.nilf), eqok := true } := by kernel_rfl
@[go_sem] theorem tab502 : mkTab Tryz.prog 502 = some { k := .func, size := 1, bytes := 8, zero := some (.nilf), eqok := true } := by kernel_rfl
@[go_sem] theorem tab503 : mkTab Tryz.prog 503 = some { k := .ptr 5, size := 1, bytes := 8, zero := some (.nilp), eqok := true } := by kernel_rfl
@[go_sem] theorem tab504 : mkTab Tryz.prog 504 = some { k := .ptr 525, size := 1, bytes := 8, zero := some (.nilp), eqok := true } := by kernel_rfl
@[go_sem] theorem tab505 : mkTab Tryz.prog 505 = some { k := .func, size := 1, bytes := 8, zero := some (.nilf), eqok := true } := by kernel_rfl
@[go_sem] theorem tab506 : mkTab Tryz.prog 506 = some { k := .func, size := 1, bytes := 8, zero := some (.nilf), eqok := true } := by kernel_rfl
@[go_sem] theorem tab507 : mkTab Tryz.prog 507 = some { k := .struct [(3, 0), (9, 1)] true, size := 2, bytes := 24, zero := some (.agg [.int .i64 0, .str ⟨#[]⟩]), eqok := true } := by kernel_rfl
@[go_sem] theorem tab508 : mkTab Tryz.prog 508 = some { k := .struct [(3, 0), (9, 1)] true, size := 2, bytes := 24, zero := some (.agg [.int .i64 0, .str ⟨#[]⟩]), eqok := true } := by kernel_rfl
@[go_sem] theorem tab509 : mkTab Tryz.prog 509 = some { k := .func, size := 1, bytes := 8, zero := some (.nilf), eqok := true } := by kernel_rfl
@[go_sem] theorem tab510 : mkTab Tryz.prog 510 = some { k := .func, size := 1, bytes := 8, zero := some (.nilf), eqok := true } := by kernel_rfl
@[go_sem] theorem tab511 : mkTab Tryz.prog 511 = some { k := .func, size := 1, bytes := 8, zero := some (.nilf), eqok := true } := by kernel_rfl
@[go_sem] theorem tab512 : mkTab Tryz.prog 512 = some { k := .func, size := 1, bytes := 8, zero := some (.nilf), eqok := true } := by kernel_rfl
@[go_sem] theorem tab513 : mkTab Tryz.prog 513 = some { k := .func, size := 1, bytes := 8, zero := some (.nilf), eqok := true } := by kernel_rfl
@[go_sem] theorem tab514 : mkTab Tryz.prog 514 = some { k := .func, size := 1, bytes := 8, zero := some (.nilf), eqok := true } := by kernel_rfl
@[go_sem] theorem tab515 : mkTab Tryz.prog 515 = some { k := .func, size := 1, bytes := 8, zero := some (.nilf), eqok := true } := by kernel_rfl
@[go_sem] theorem tab516 : mkTab Tryz.prog 516 = some { k := .func, size := 1, bytes := 8, zero := some (.nilf), eqok := true } := by kernel_rfl
@[go_sem] theorem tab517 : mkTab Tryz.prog 517 = some { k := .func, size := 1, bytes := 8, zero := some (.nilf), eqok := true } := by kernel_rfl
@[go_sem] theorem tab518 : mkTab Tryz.prog 518 = some { k := .struct [(3, 0), (3, 1), (240, 2)] true, size := 3, bytes := 24, zero := some (.agg [.int .i64 0, .int .i64 0, .int .u64 0]), eqok := true } := by kernel_rfl
@[go_sem] theorem tab519 : mkTab Tryz.prog 519 = some { k := .struct [(3, 0), (3, 1), (240, 2)] true, size := 3, bytes := 24, zero := some (.agg [.int .i64 0, .int .i64 0, .int .u64 0]), eqok := true } := by kernel_rfl
@[go_sem] theorem tab520 : mkTab Tryz.prog 520 = some { k := .func, size := 1, bytes := 8, zero := some (.nilf), eqok := true } := by kernel_rfl
@[go_sem] theorem tab523 : mkTab Tryz.prog 523 = some { k := .func, size := 1, bytes := 8, zero := some (.nilf), eqok := true } := by kernel_rfl
@[go_sem] theorem tab524 : mkTab Tryz.prog 524 = some { k := .arr 256 392, size := 256, bytes := 1024, zero := some (.agg (List.replicate 256 (.int .u32 0))), eqok := true } := by kernel_rfl
@[go_sem] theorem tab525 : mkTab Tryz.prog 525 = some { k := .arr 256 392, size := 256, bytes := 1024, zero := some (.agg (List.replicate 256 (.int .u32 0))), eqok := true } := by kernel_rfl
@[go_sem] theorem tab526 : mkTab Tryz.prog 526 = some { k := .func, size := 1, bytes := 8, zero := some (.nilf), eqok := true } := by kernel_rfl
@[go_sem] theorem tab527 : mkTab Tryz.prog 527 = some { k := .int .i64, size := 1, bytes := 8, zero := some (.int .i64 0), eqok := true } := by kernel_rfl
@[go_sem] theorem tab529 : mkTab Tryz.prog 529 = some { k := .func, size := 1, bytes := 8, zero := some (.nilf), eqok := true } := by kernel_rfl
@[go_sem] theorem tab530 : mkTab Tryz.prog 530 = some { k := .func, size := 1, bytes := 8, zero := some (.nilf), eqok := true } := by kernel_rfl
@[go_sem] theorem tab531 : mkTab Tryz.prog 531 = some { k := .func, size := 1, bytes := 8, zero := some (.nilf), eqok := true } := by kernel_rfl
@[go_sem] theorem tab532 : mkTab Tryz.prog 532 = some { k := .func, size := 1, bytes := 8, zero := some (.nilf), eqok := true } := by kernel_rfl
@[go_sem] theorem tab533 : mkTab Tryz.prog 533 = some { k := .func, size := 1, bytes := 8, zero := some (.nilf), eqok := true } := by kernel_rfl
@[go_sem] theorem tab534 : mkTab Tryz.prog 534 = some { k := .func, size := 1, bytes := 8, zero := some (.nilf), eqok := true } := by kernel_rfl
@[go_sem] theorem tab535 : mkTab Tryz.prog 535 = some { k := .slice 235, size := 1, bytes := 24, zero := some (.nils), eqok := true } := by kernel_rfl
@[go_sem] theorem tab536 : mkTab Tryz.prog 536 = some { k := .func, size := 1, bytes := 8, zero := some (.nilf), eqok := true } := by kernel_rfl
@[go_sem] theorem tab537 : mkTab Tryz.prog 537 = some { k := .ptr 519, size := 1, bytes := 8, zero := some (.nilp), eqok := true } := by kernel_rfl
@[go_sem] theorem tab538 : mkTab Tryz.prog 538 = some { k := .func, size := 1, bytes := 8, zero := some (.nilf), eqok := true } := by kernel_rfl
@[go_sem] theorem tab539 : mkTab Tryz.prog 539 = some { k := .int .u64, size := 1, bytes := 8, zero := some (.int .u64 0), eqok := true } := by kernel_rfl
@[go_sem] theorem tab540 : mkTab Tryz.prog 540 = some { k := .func, size := 1, bytes := 8, zero := some (.nilf), eqok := true } := by kernel_rfl
@[go_sem] theorem tab541 : mkTab Tryz.prog 541 = some { k := .func, size := 1, bytes := 8, zero := some (.nilf), eqok := true } := by kernel_rfl
@[go_sem] theorem tab542 : mkTab Tryz.prog 542 = some { k := .func, size := 1, bytes := 8, zero := some (.nilf), eqok := true } := by kernel_rfl
@[go_sem] theorem tab543 : mkTab Tryz.prog 543 = some { k := .ptr 3, size := 1, bytes := 8, zero := some (.nilp), eqok := true } := by kernel_rfl
@[go_sem] theorem tab544 : mkTab Tryz.prog 544 = some { k := .func, size := 1, bytes := 8, zero := some (.nilf), eqok := true } := by kernel_rfl
@[go_sem] theorem tab545 : mkTab Tryz.prog 545 = some { k := .func, size := 1, bytes := 8, zero := some (.nilf), eqok := true } := by kernel_rfl
@[go_sem] theorem tab546 : mkTab Tryz.prog 546 = some { k := .func, size := 1, bytes := 8, zero := some (.nilf), eqok := true } := by kernel_rfl
@[go_sem] theorem tab547 : mkTab Tryz.prog 547 = some { k := .ptr 539, size := 1, bytes := 8, zero := some (.nilp), eqok := true } := by kernel_rfl
@[go_sem] theorem tab549 : mkTab Tryz.prog 549 = some { k := .func, size := 1, bytes := 8, zero := some (.nilf), eqok := true } := by kernel_rfl
end Go.Proofs.YtkmcbaihemaoeaaGreat
