/- What the table of types says, type by type: closed facts, by program. -/
import Derived.Test.YtbhhmnfjjnnkiaaGreatProg
import Derived.Test.YtbhhmnfjjnnkiaaGreatT12
set_option linter.unusedVariables false
set_option maxRecDepth 10000
namespace Go.Proofs.YtbhhmnfjjnnkiaaGreat
open Go.TM
@[go_sem] theorem tab1 : mkTab Tryz.prog 1 = some { k := .func, size := 1, bytes := 8, zero := some (.nilf), eqok := true } := by kernel_rfl
@[go_sem] theorem tab2 : mkTab Tryz.prog 2 = some { k := .int .i64, size := 1, bytes := 8, zero := some (.int .i64 0), eqok := true } := by kernel_rfl
@[go_sem] theorem tab3 : mkTab Tryz.prog 3 = some { k := .int .i64, size := 1, bytes := 8, zero := some (.int .i64 0), eqok := true } := by kernel_rfl
@[go_sem] theorem tab4 : mkTab Tryz.prog 4 = some { k := .bool, size := 1, bytes := 1, zero := some (.bool false), eqok := true } := by kernel_rfl
@[go_sem] theorem tab5 : mkTab Tryz.prog 5 = some { k := .int .u8, size := 1, bytes := 1, zero := some (.int .u8 0), eqok := true } := by kernel_rfl
@[go_sem] theorem tab9 : mkTab Tryz.prog 9 = some { k := .str, size := 1, bytes := 16, zero := some (.str ⟨#[]⟩), eqok := true } := by kernel_rfl
@[go_sem] theorem tab12 : mkTab Tryz.prog 12 = some { k := .int .u64, size := 1, bytes := 8, zero := some (.int .u64 0), eqok := true } := by kernel_rfl
@[go_sem] theorem tab20 : mkTab Tryz.prog 20 = some { k := .iface true, size := 1, bytes := 16, zero := some (.nili), eqok := true } := by kernel_rfl
@[go_sem] theorem tab21 : mkTab Tryz.prog 21 = some { k := .int .i32, size := 1, bytes := 4, zero := some (.int .i32 0), eqok := true } := by kernel_rfl
@[go_sem] theorem tab22 : mkTab Tryz.prog 22 = some { k := .slice 3, size := 1, bytes := 24, zero := some (.nils), eqok := true } := by kernel_rfl
@[go_sem] theorem tab23 : mkTab Tryz.prog 23 = some { k := .slice 37, size := 1, bytes := 24, zero := some (.nils), eqok := true } := by kernel_rfl
@[go_sem] theorem tab24 : mkTab Tryz.prog 24 = some { k := .slice 68, size := 1, bytes := 24, zero := some (.nils), eqok := true } := by kernel_rfl
@[go_sem] theorem tab25 : mkTab Tryz.prog 25 = some { k := .slice 109, size := 1, bytes := 24, zero := some (.nils), eqok := true } := by kernel_rfl
@[go_sem] theorem tab26 : mkTab Tryz.prog 26 = some { k := .struct [(3, 0), (22, 1), (3, 2), (23, 3), (24, 4), (25, 5)] true, size := 6, bytes := 112, zero := some (.agg [.int .i64 0, .nils, .int .i64 0, .nils, .nils, .nils]), eqok := true } := by kernel_rfl
@[go_sem] theorem tab27 : mkTab Tryz.prog 27 = some { k := .struct [(3, 0), (22, 1), (3, 2), (23, 3), (24, 4), (25, 5)] true, size := 6, bytes := 112, zero := some (.agg [.int .i64 0, .nils, .int .i64 0, .nils, .nils, .nils]), eqok := true } := by kernel_rfl
@[go_sem] theorem tab28 : mkTab Tryz.prog 28 = some { k := .func, size := 1, bytes := 8, zero := some (.nilf), eqok := true } := by kernel_rfl
@[go_sem] theorem tab29 : mkTab Tryz.prog 29 = some { k := .func, size := 1, bytes := 8, zero := some (.nilf), eqok := true } := by kernel_rfl
@[go_sem] theorem tab30 : mkTab Tryz.prog 30 = some { k := .ptr 74, size := 1, bytes := 8, zero := some (.nilp), eqok := true } := by kernel_rfl
@[go_sem] theorem tab31 : mkTab Tryz.prog 31 = some { k := .int .i64, size := 1, bytes := 8, zero := some (.int .i64 0), eqok := true } := by kernel_rfl
@[go_sem] theorem tab33 : mkTab Tryz.prog 33 = some { k := .func, size := 1, bytes := 8, zero := some (.nilf), eqok := true } := by kernel_rfl
@[go_sem] theorem tab35 : mkTab Tryz.prog 35 = some { k := .func, size := 1, bytes := 8, zero := some (.nilf), eqok := true } := by kernel_rfl
@[go_sem] theorem tab36 : mkTab Tryz.prog 36 = some { k := .struct [(3, 0), (3, 1), (3, 2)] true, size := 3, bytes := 24, zero := some (.agg [.int .i64 0, .int .i64 0, .int .i64 0]), eqok := true } := by kernel_rfl
@[go_sem] theorem tab37 : mkTab Tryz.prog 37 = some { k := .struct [(3, 0), (3, 1), (3, 2)] true, size := 3, bytes := 24, zero := some (.agg [.int .i64 0, .int .i64 0, .int .i64 0]), eqok := true } := by kernel_rfl
@[go_sem] theorem tab38 : mkTab Tryz.prog 38 = some { k := .func, size := 1, bytes := 8, zero := some (.nilf), eqok := true } := by kernel_rfl
@[go_sem] theorem tab39 : mkTab Tryz.prog 39 = some { k := .map 3 3, size := 1, bytes := 8, zero := some (.nilm), eqok := true } := by kernel_rfl
@[go_sem] theorem tab40 : mkTab Tryz.prog 40 = some { k := .func, size := 1, bytes := 8, zero := some (.nilf), eqok := true } := by kernel_rfl
@[go_sem] theorem tab41 : mkTab Tryz.prog 41 = some { k := .slice 50, size := 1, bytes := 24, zero := some (.nils), eqok := true } := by kernel_rfl
@[go_sem] theorem tab42 : mkTab Tryz.prog 42 = some { k := .func, size := 1, bytes := 8, zero := some (.nilf), eqok := true } := by kernel_rfl
@[go_sem] theorem tab43 : mkTab Tryz.prog 43 = some { k := .struct [(3, 0), (3, 1)] true, size := 2, bytes := 16, zero := some (.agg [.int .i64 0, .int .i64 0]), eqok := true } := by kernel_rfl
@[go_sem] theorem tab44 : mkTab Tryz.prog 44 = some { k := .struct [(3, 0), (3, 1)] true, size := 2, bytes := 16, zero := some (.agg [.int .i64 0, .int .i64 0]), eqok := true } := by kernel_rfl
@[go_sem] theorem tab46 : mkTab Tryz.prog 46 = some { k := .func, size := 1, bytes := 8, zero := some (.nilf), eqok := true } := by kernel_rfl
@[go_sem] theorem tab47 : mkTab Tryz.prog 47 = some { k := .struct [(3, 0), (3, 1), (9, 2), (3, 3)] true, size := 4, bytes := 40, zero := some (.agg [.int .i64 0, .int .i64 0, .str ⟨#[]⟩, .int .i64 0]), eqok := true } := by kernel_rfl
@[go_sem] theorem tab48 : mkTab Tryz.prog 48 = some { k := .struct [(3, 0), (3, 1), (9, 2), (3, 3)] true, size := 4, bytes := 40, zero := some (.agg [.int .i64 0, .int .i64 0, .str ⟨#[]⟩, .int .i64 0]), eqok := true } := by kernel_rfl
@[go_sem] theorem tab49 : mkTab Tryz.prog 49 = some { k := .struct [(3, 0), (3, 1), (3, 2), (48, 3), (3, 7), (9, 8)] true, size := 9, bytes := 88, zero := some (.agg [.int .i64 0, .int .i64 0, .int .i64 0, .int .i64 0, .int .i64 0, .str ⟨#[]⟩, .int .i64 0, .int .i64 0, .str ⟨#[]⟩]), eqok := true } := by kernel_rfl
@[go_sem] theorem tab50 : mkTab Tryz.prog 50 = some { k := .struct [(3, 0), (3, 1), (3, 2), (48, 3), (3, 7), (9, 8)] true, size := 9, bytes := 88, zero := some (.agg [.int .i64 0, .int .i64 0, .int .i64 0, .int .i64 0, .int .i64 0, .str ⟨#[]⟩, .int .i64 0, .int .i64 0, .str ⟨#[]⟩]), eqok := true } := by kernel_rfl
@[go_sem] theorem tab51 : mkTab Tryz.prog 51 = some { k := .struct [(31, 0), (9, 1), (4, 2), (3, 3)] true, size := 4, bytes := 40, zero := some (.agg [.int .i64 0, .str ⟨#[]⟩, .bool false, .int .i64 0]), eqok := true } := by kernel_rfl
@[go_sem] theorem tab52 : mkTab Tryz.prog 52 = some { k := .struct [(31, 0), (9, 1), (4, 2), (3, 3)] true, size := 4, bytes := 40, zero := some (.agg [.int .i64 0, .str ⟨#[]⟩, .bool false, .int .i64 0]), eqok := true } := by kernel_rfl
@[go_sem] theorem tab53 : mkTab Tryz.prog 53 = some { k := .func, size := 1, bytes := 8, zero := some (.nilf), eqok := true } := by kernel_rfl
@[go_sem] theorem tab54 : mkTab Tryz.prog 54 = some { k := .func, size := 1, bytes := 8, zero := some (.nilf), eqok := true } := by kernel_rfl
@[go_sem] theorem tab55 : mkTab Tryz.prog 55 = some { k := .slice 212, size := 1, bytes := 24, zero := some (.nils), eqok := true } := by kernel_rfl
@[go_sem] theorem tab57 : mkTab Tryz.prog 57 = some { k := .func, size := 1, bytes := 8, zero := some (.nilf), eqok := true } := by kernel_rfl
@[go_sem] theorem tab58 : mkTab Tryz.prog 58 = some { k := .func, size := 1, bytes := 8, zero := some (.nilf), eqok := true } := by kernel_rfl
@[go_sem] theorem tab59 : mkTab Tryz.prog 59 = some { k := .func, size := 1, bytes := 8, zero := some (.nilf), eqok := true } := by kernel_rfl
@[go_sem] theorem tab60 : mkTab Tryz.prog 60 = some { k := .arr 2 3, size := 2, bytes := 16, zero := some (.agg [.int .i64 0, .int .i64 0]), eqok := true } := by kernel_rfl
@[go_sem] theorem tab61 : mkTab Tryz.prog 61 = some { k := .func, size := 1, bytes := 8, zero := some (.nilf), eqok := true } := by kernel_rfl
@[go_sem] theorem tab62 : mkTab Tryz.prog 62 = some { k := .func, size := 1, bytes := 8, zero := some (.nilf), eqok := true } := by kernel_rfl
@[go_sem] theorem tab63 : mkTab Tryz.prog 63 = some { k := .arr 4 3, size := 4, bytes := 32, zero := some (.agg [.int .i64 0, .int .i64 0, .int .i64 0, .int .i64 0]), eqok := true } := by kernel_rfl
@[go_sem] theorem tab64 : mkTab Tryz.prog 64 = some { k := .func, size := 1, bytes := 8, zero := some (.nilf), eqok := true } := by kernel_rfl
@[go_sem] theorem tab65 : mkTab Tryz.prog 65 = some { k := .func, size := 1, bytes := 8, zero := some (.nilf), eqok := true } := by kernel_rfl
@[go_sem] theorem tab66 : mkTab Tryz.prog 66 = some { k := .func, size := 1, bytes := 8, zero := some (.nilf), eqok := true } := by kernel_rfl
@[go_sem] theorem tab67 : mkTab Tryz.prog 67 = some { k := .struct [(3, 0), (3, 1), (3, 2), (3, 3), (4, 4), (3, 5), (3, 6), (22, 7)] true, size := 8, bytes := 80, zero := some (.agg [.int .i64 0, .int .i64 0, .int .i64 0, .int .i64 0, .bool false, .int .i64 0, .int .i64 0, .nils]), eqok := true } := by kernel_rfl
@[go_sem] theorem tab68 : mkTab Tryz.prog 68 = some { k := .struct [(3, 0), (3, 1), (3, 2), (3, 3), (4, 4), (3, 5), (3, 6), (22, 7)] true, size := 8, bytes := 80, zero := some (.agg [.int .i64 0, .int .i64 0, .int .i64 0, .int .i64 0, .bool false, .int .i64 0, .int .i64 0, .nils]), eqok := true } := by kernel_rfl
@[go_sem] theorem tab69 : mkTab Tryz.prog 69 = some { k := .func, size := 1, bytes := 8, zero := some (.nilf), eqok := true } := by kernel_rfl
@[go_sem] theorem tab70 : mkTab Tryz.prog 70 = some { k := .ptr 116, size := 1, bytes := 8, zero := some (.nilp), eqok := true } := by kernel_rfl
@[go_sem] theorem tab71 : mkTab Tryz.prog 71 = some { k := .ptr 134, size := 1, bytes := 8, zero := some (.nilp), eqok := true } := by kernel_rfl
@[go_sem] theorem tab72 : mkTab Tryz.prog 72 = some { k := .ptr 146, size := 1, bytes := 8, zero := some (.nilp), eqok := true } := by kernel_rfl
@[go_sem] theorem tab73 : mkTab Tryz.prog 73 = some { k := .struct [(27, 0), (3, 6), (70, 7), (71, 8), (72, 9), (39, 10), (3, 11)] true, size := 12, bytes := 160, zero := some (.agg [.int .i64 0, .nils, .int .i64 0, .nils, .nils, .nils, .int .i64 0, .nilp, .nilp, .nilp, .nilm, .int .i64 0]), eqok := true } := by kernel_rfl
@[go_sem] theorem tab74 : mkTab Tryz.prog 74 = some { k := .struct [(27, 0), (3, 6), (70, 7), (71, 8), (72, 9), (39, 10), (3, 11)] true, size := 12, bytes := 160, zero := some (.agg [.int .i64 0, .nils, .int .i64 0, .nils, .nils, .nils, .int .i64 0, .nilp, .nilp, .nilp, .nilm, .int .i64 0]), eqok := true } := by kernel_rfl
@[go_sem] theorem tab76 : mkTab Tryz.prog 76 = some { k := .func, size := 1, bytes := 8, zero := some (.nilf), eqok := true } := by kernel_rfl
@[go_sem] theorem tab78 : mkTab Tryz.prog 78 = some { k := .func, size := 1, bytes := 8, zero := some (.nilf), eqok := true } := by kernel_rfl
@[go_sem] theorem tab80 : mkTab Tryz.prog 80 = some { k := .func, size := 1, bytes := 8, zero := some (.nilf), eqok := true } := by kernel_rfl
@[go_sem] theorem tab81 : mkTab Tryz.prog 81 = some { k := .func, size := 1, bytes := 8, zero := some (.nilf), eqok := true } := by kernel_rfl
@[go_sem] theorem tab82 : mkTab Tryz.prog 82 = some { k := .ptr 85, size := 1, bytes := 8, zero := some (.nilp), eqok := true } := by kernel_rfl
@[go_sem] theorem tab83 : mkTab Tryz.prog 83 = some { k := .map 3 68, size := 1, bytes := 8, zero := some (.nilm), eqok := true } := by kernel_rfl
@[go_sem] theorem tab84 : mkTab Tryz.prog 84 = some { k := .struct [(27, 0), (83, 6)] true, size := 7, bytes := 120, zero := some (.agg [.int .i64 0, .nils, .int .i64 0, .nils, .nils, .nils, .nilm]), eqok := true } := by kernel_rfl
@[go_sem] theorem tab85 : mkTab Tryz.prog 85 = some { k := .struct [(27, 0), (83, 6)] true, size := 7, bytes := 120, zero := some (.agg [.int .i64 0, .nils, .int .i64 0, .nils, .nils, .nils, .nilm]), eqok := true } := by kernel_rfl
@[go_sem] theorem tab86 : mkTab Tryz.prog 86 = some { k := .map 156 3, size := 1, bytes := 8, zero := some (.nilm), eqok := true } := by kernel_rfl
@[go_sem] theorem tab87 : mkTab Tryz.prog 87 = some { k := .func, size := 1, bytes := 8, zero := some (.nilf), eqok := true } := by kernel_rfl
@[go_sem] theorem tab88 : mkTab Tryz.prog 88 = some { k := .func, size := 1, bytes := 8, zero := some (.nilf), eqok := true } := by kernel_rfl
@[go_sem] theorem tab89 : mkTab Tryz.prog 89 = some { k := .func, size := 1, bytes := 8, zero := some (.nilf), eqok := true } := by kernel_rfl
@[go_sem] theorem tab90 : mkTab Tryz.prog 90 = some { k := .struct [(3, 0), (3, 1), (87, 2)] true, size := 3, bytes := 24, zero := some (.agg [.int .i64 0, .int .i64 0, .nilf]), eqok := true } := by kernel_rfl
@[go_sem] theorem tab91 : mkTab Tryz.prog 91 = some { k := .func, size := 1, bytes := 8, zero := some (.nilf), eqok := true } := by kernel_rfl
@[go_sem] theorem tab92 : mkTab Tryz.prog 92 = some { k := .func, size := 1, bytes := 8, zero := some (.nilf), eqok := true } := by kernel_rfl
@[go_sem] theorem tab93 : mkTab Tryz.prog 93 = some { k := .func, size := 1, bytes := 8, zero := some (.nilf), eqok := true } := by kernel_rfl
@[go_sem] theorem tab94 : mkTab Tryz.prog 94 = some { k := .slice 90, size := 1, bytes := 24, zero := some (.nils), eqok := true } := by kernel_rfl
@[go_sem] theorem tab96 : mkTab Tryz.prog 96 = some { k := .func, size := 1, bytes := 8, zero := some (.nilf), eqok := true } := by kernel_rfl
@[go_sem] theorem tab97 : mkTab Tryz.prog 97 = some { k := .func, size := 1, bytes := 8, zero := some (.nilf), eqok := true } := by kernel_rfl
@[go_sem] theorem tab98 : mkTab Tryz.prog 98 = some { k := .func, size := 1, bytes := 8, zero := some (.nilf), eqok := true } := by kernel_rfl
@[go_sem] theorem tab99 : mkTab Tryz.prog 99 = some { k := .arr 6 98, size := 6, bytes := 48, zero := some (.agg [.nilf, .nilf, .nilf, .nilf, .nilf, .nilf]), eqok := true } := by kernel_rfl
@[go_sem] theorem tab100 : mkTab Tryz.prog 100 = some { k := .func, size := 1, bytes := 8, zero := some (.nilf), eqok := true } := by kernel_rfl
@[go_sem] theorem tab101 : mkTab Tryz.prog 101 = some { k := .struct [(48, 0), (3, 4), (3, 5)] true, size := 6, bytes := 56, zero := some (.agg [.int .i64 0, .int .i64 0, .str ⟨#[]⟩, .int .i64 0, .int .i64 0, .int .i64 0]), eqok := true } := by kernel_rfl
@[go_sem] theorem tab102 : mkTab Tryz.prog 102 = some { k := .struct [(48, 0), (3, 4), (3, 5)] true, size := 6, bytes := 56, zero := some (.agg [.int .i64 0, .int .i64 0, .str ⟨#[]⟩, .int .i64 0, .int .i64 0, .int .i64 0]), eqok := true } := by kernel_rfl
@[go_sem] theorem tab103 : mkTab Tryz.prog 103 = some { k := .func, size := 1, bytes := 8, zero := some (.nilf), eqok := true } := by kernel_rfl
@[go_sem] theorem tab104 : mkTab Tryz.prog 104 = some { k := .struct [(3, 0), (3, 1), (9, 2)] true, size := 3, bytes := 32, zero := some (.agg [.int .i64 0, .int .i64 0, .str ⟨#[]⟩]), eqok := true } := by kernel_rfl
@[go_sem] theorem tab105 : mkTab Tryz.prog 105 = some { k := .struct [(3, 0), (3, 1), (9, 2)] true, size := 3, bytes := 32, zero := some (.agg [.int .i64 0, .int .i64 0, .str ⟨#[]⟩]), eqok := true } := by kernel_rfl
@[go_sem] theorem tab107 : mkTab Tryz.prog 107 = some { k := .func, size := 1, bytes := 8, zero := some (.nilf), eqok := true } := by kernel_rfl
@[go_sem] theorem tab108 : mkTab Tryz.prog 108 = some { k := .struct [(3, 0), (3, 1), (3, 2), (3, 3), (4, 4), (3, 5), (3, 6), (3, 7), (3, 8), (3, 9), (3, 10)] true, size := 11, bytes := 88, zero := some (.agg [.int .i64 0, .int .i64 0, .int .i64 0, .int .i64 0, .bool false, .int .i64 0, .int .i64 0, .int .i64 0, .int .i64 0, .int .i64 0, .int .i64 0]), eqok := true } := by kernel_rfl
@[go_sem] theorem tab109 : mkTab Tryz.prog 109 = some { k := .struct [(3, 0), (3, 1), (3, 2), (3, 3), (4, 4), (3, 5), (3, 6), (3, 7), (3, 8), (3, 9), (3, 10)] true, size := 11, bytes := 88, zero := some (.agg [.int .i64 0, .int .i64 0, .int .i64 0, .int .i64 0, .bool false, .int .i64 0, .int .i64 0, .int .i64 0, .int .i64 0, .int .i64 0, .int .i64 0]), eqok := true } := by kernel_rfl
@[go_sem] theorem tab110 : mkTab Tryz.prog 110 = some { k := .map 3 119, size := 1, bytes := 8, zero := some (.nilm), eqok := true } := by kernel_rfl
@[go_sem] theorem tab111 : mkTab Tryz.prog 111 = some { k := .func, size := 1, bytes := 8, zero := some (.nilf), eqok := true } := by kernel_rfl
@[go_sem] theorem tab112 : mkTab Tryz.prog 112 = some { k := .ptr 176, size := 1, bytes := 8, zero := some (.nilp), eqok := true } := by kernel_rfl
@[go_sem] theorem tab113 : mkTab Tryz.prog 113 = some { k := .func, size := 1, bytes := 8, zero := some (.nilf), eqok := true } := by kernel_rfl
@[go_sem] theorem tab114 : mkTab Tryz.prog 114 = some { k := .map 3 212, size := 1, bytes := 8, zero := some (.nilm), eqok := true } := by kernel_rfl
@[go_sem] theorem tab115 : mkTab Tryz.prog 115 = some { k := .struct [(27, 0), (3, 6), (110, 7), (22, 8), (112, 9), (3, 10), (3, 11), (114, 12), (3, 13), (55, 14)] true, size := 15, bytes := 216, zero := some (.agg [.int .i64 0, .nils, .int .i64 0, .nils, .nils, .nils, .int .i64 0, .nilm, .nils, .nilp, .int .i64 0, .int .i64 0, .nilm, .int .i64 0, .nils]), eqok := true } := by kernel_rfl
@[go_sem] theorem tab116 : mkTab Tryz.prog 116 = some { k := .struct [(27, 0), (3, 6), (110, 7), (22, 8), (112, 9), (3, 10), (3, 11), (114, 12), (3, 13), (55, 14)] true, size := 15, bytes := 216, zero := some (.agg [.int .i64 0, .nils, .int .i64 0, .nils, .nils, .nils, .int .i64 0, .nilm, .nils, .nilp, .int .i64 0, .int .i64 0, .nilm, .int .i64 0, .nils]), eqok := true } := by kernel_rfl
@[go_sem] theorem tab118 : mkTab Tryz.prog 118 = some { k := .func, size := 1, bytes := 8, zero := some (.nilf), eqok := true } := by kernel_rfl
@[go_sem] theorem tab119 : mkTab Tryz.prog 119 = some { k := .ptr 123, size := 1, bytes := 8, zero := some (.nilp), eqok := true } := by kernel_rfl
@[go_sem] theorem tab120 : mkTab Tryz.prog 120 = some { k := .ptr 181, size := 1, bytes := 8, zero := some (.nilp), eqok := true } := by kernel_rfl
@[go_sem] theorem tab121 : mkTab Tryz.prog 121 = some { k := .ptr 186, size := 1, bytes := 8, zero := some (.nilp), eqok := true } := by kernel_rfl
@[go_sem] theorem tab122 : mkTab Tryz.prog 122 = some { k := .struct [(68, 0), (120, 8), (121, 9), (3, 10), (3, 11)] true, size := 12, bytes := 112, zero := some (.agg [.int .i64 0, .int .i64 0, .int .i64 0, .int .i64 0, .bool false, .int .i64 0, .int .i64 0, .nils, .nilp, .nilp, .int .i64 0, .int .i64 0]), eqok := true } := by kernel_rfl
@[go_sem] theorem tab123 : mkTab Tryz.prog 123 = some { k := .struct [(68, 0), (120, 8), (121, 9), (3, 10), (3, 11)] true, size := 12, bytes := 112, zero := some (.agg [.int .i64 0, .int .i64 0, .int .i64 0, .int .i64 0, .bool false, .int .i64 0, .int .i64 0, .nils, .nilp, .nilp, .int .i64 0, .int .i64 0]), eqok := true } := by kernel_rfl
@[go_sem] theorem tab125 : mkTab Tryz.prog 125 = some { k := .func, size := 1, bytes := 8, zero := some (.nilf), eqok := true } := by kernel_rfl
@[go_sem] theorem tab127 : mkTab Tryz.prog 127 = some { k := .func, size := 1, bytes := 8, zero := some (.nilf), eqok := true } := by kernel_rfl
@[go_sem] theorem tab128 : mkTab Tryz.prog 128 = some { k := .ptr 219, size := 1, bytes := 8, zero := some (.nilp), eqok := true } := by kernel_rfl
@[go_sem] theorem tab130 : mkTab Tryz.prog 130 = some { k := .func, size := 1, bytes := 8, zero := some (.nilf), eqok := true } := by kernel_rfl
@[go_sem] theorem tab131 : mkTab Tryz.prog 131 = some { k := .map 3 135, size := 1, bytes := 8, zero := some (.nilm), eqok := true } := by kernel_rfl
@[go_sem] theorem tab132 : mkTab Tryz.prog 132 = some { k := .map 31 3, size := 1, bytes := 8, zero := some (.nilm), eqok := true } := by kernel_rfl
@[go_sem] theorem tab133 : mkTab Tryz.prog 133 = some { k := .struct [(27, 0), (3, 6), (131, 7), (128, 8), (3, 9), (132, 10)] true, size := 11, bytes := 152, zero := some (.agg [.int .i64 0, .nils, .int .i64 0, .nils, .nils, .nils, .int .i64 0, .nilm, .nilp, .int .i64 0, .nilm]), eqok := true } := by kernel_rfl
@[go_sem] theorem tab134 : mkTab Tryz.prog 134 = some { k := .struct [(27, 0), (3, 6), (131, 7), (128, 8), (3, 9), (132, 10)] true, size := 11, bytes := 152, zero := some (.agg [.int .i64 0, .nils, .int .i64 0, .nils, .nils, .nils, .int .i64 0, .nilm, .nilp, .int .i64 0, .nilm]), eqok := true } := by kernel_rfl
@[go_sem] theorem tab135 : mkTab Tryz.prog 135 = some { k := .ptr 140, size := 1, bytes := 8, zero := some (.nilp), eqok := true } := by kernel_rfl
@[go_sem] theorem tab136 : mkTab Tryz.prog 136 = some { k := .ptr 190, size := 1, bytes := 8, zero := some (.nilp), eqok := true } := by kernel_rfl
@[go_sem] theorem tab137 : mkTab Tryz.prog 137 = some { k := .arr 2 136, size := 2, bytes := 16, zero := some (.agg [.nilp, .nilp]), eqok := true } := by kernel_rfl
@[go_sem] theorem tab138 : mkTab Tryz.prog 138 = some { k := .ptr 193, size := 1, bytes := 8, zero := some (.nilp), eqok := true } := by kernel_rfl
@[go_sem] theorem tab139 : mkTab Tryz.prog 139 = some { k := .struct [(68, 0), (137, 8), (138, 10)] true, size := 11, bytes := 104, zero := some (.agg [.int .i64 0, .int .i64 0, .int .i64 0, .int .i64 0, .bool false, .int .i64 0, .int .i64 0, .nils, .nilp, .nilp, .nilp]), eqok := true } := by kernel_rfl
@[go_sem] theorem tab140 : mkTab Tryz.prog 140 = some { k := .struct [(68, 0), (137, 8), (138, 10)] true, size := 11, bytes := 104, zero := some (.agg [.int .i64 0, .int .i64 0, .int .i64 0, .int .i64 0, .bool false, .int .i64 0, .int .i64 0, .nils, .nilp, .nilp, .nilp]), eqok := true } := by kernel_rfl
@[go_sem] theorem tab141 : mkTab Tryz.prog 141 = some { k := .func, size := 1, bytes := 8, zero := some (.nilf), eqok := true } := by kernel_rfl
@[go_sem] theorem tab143 : mkTab Tryz.prog 143 = some { k := .func, size := 1, bytes := 8, zero := some (.nilf), eqok := true } := by kernel_rfl
@[go_sem] theorem tab144 : mkTab Tryz.prog 144 = some { k := .map 3 151, size := 1, bytes := 8, zero := some (.nilm), eqok := true } := by kernel_rfl
@[go_sem] theorem tab145 : mkTab Tryz.prog 145 = some { k := .struct [(144, 0)] true, size := 1, bytes := 8, zero := some (.agg [.nilm]), eqok := true } := by kernel_rfl
@[go_sem] theorem tab146 : mkTab Tryz.prog 146 = some { k := .struct [(144, 0)] true, size := 1, bytes := 8, zero := some (.agg [.nilm]), eqok := true } := by kernel_rfl
@[go_sem] theorem tab147 : mkTab Tryz.prog 147 = some { k := .iface false, size := 1, bytes := 16, zero := some (.nili), eqok := true } := by kernel_rfl
@[go_sem] theorem tab148 : mkTab Tryz.prog 148 = some { k := .iface false, size := 1, bytes := 16, zero := some (.nili), eqok := true } := by kernel_rfl
@[go_sem] theorem tab149 : mkTab Tryz.prog 149 = some { k := .func, size := 1, bytes := 8, zero := some (.nilf), eqok := true } := by kernel_rfl
@[go_sem] theorem tab150 : mkTab Tryz.prog 150 = some { k := .struct [(109, 0), (148, 11)] true, size := 12, bytes := 104, zero := some (.agg [.int .i64 0, .int .i64 0, .int .i64 0, .int .i64 0, .bool false, .int .i64 0, .int .i64 0, .int .i64 0, .int .i64 0, .int .i64 0, .int .i64 0, .nili]), eqok := false } := by kernel_rfl
@[go_sem] theorem tab151 : mkTab Tryz.prog 151 = some { k := .struct [(109, 0), (148, 11)] true, size := 12, bytes := 104, zero := some (.agg [.int .i64 0, .int .i64 0, .int .i64 0, .int .i64 0, .bool false, .int .i64 0, .int .i64 0, .int .i64 0, .int .i64 0, .int .i64 0, .int .i64 0, .nili]), eqok := false } := by kernel_rfl
@[go_sem] theorem tab153 : mkTab Tryz.prog 153 = some { k := .func, size := 1, bytes := 8, zero := some (.nilf), eqok := true } := by kernel_rfl
@[go_sem] theorem tab154 : mkTab Tryz.prog 154 = some { k := .func, size := 1, bytes := 8, zero := some (.nilf), eqok := true } := by kernel_rfl
@[go_sem] theorem tab155 : mkTab Tryz.prog 155 = some { k := .struct [(3, 0), (4, 1), (3, 2), (3, 3)] true, size := 4, bytes := 32, zero := some (.agg [.int .i64 0, .bool false, .int .i64 0, .int .i64 0]), eqok := true } := by kernel_rfl
@[go_sem] theorem tab156 : mkTab Tryz.prog 156 = some { k := .struct [(3, 0), (4, 1), (3, 2), (3, 3)] true, size := 4, bytes := 32, zero := some (.agg [.int .i64 0, .bool false, .int .i64 0, .int .i64 0]), eqok := true } := by kernel_rfl
@[go_sem] theorem tab157 : mkTab Tryz.prog 157 = some { k := .func, size := 1, bytes := 8, zero := some (.nilf), eqok := true } := by kernel_rfl
@[go_sem] theorem tab158 : mkTab Tryz.prog 158 = some { k := .func, size := 1, bytes := 8, zero := some (.nilf), eqok := true } := by kernel_rfl
@[go_sem] theorem tab159 : mkTab Tryz.prog 159 = some { k := .ptr 167, size := 1, bytes := 8, zero := some (.nilp), eqok := true } := by kernel_rfl
@[go_sem] theorem tab160 : mkTab Tryz.prog 160 = some { k := .struct [(3, 0), (3, 1), (3, 2), (3, 3), (9, 4)] true, size := 5, bytes := 48, zero := some (.agg [.int .i64 0, .int .i64 0, .int .i64 0, .int .i64 0, .str ⟨#[]⟩]), eqok := true } := by kernel_rfl
@[go_sem] theorem tab161 : mkTab Tryz.prog 161 = some { k := .struct [(3, 0), (3, 1), (3, 2), (3, 3), (9, 4)] true, size := 5, bytes := 48, zero := some (.agg [.int .i64 0, .int .i64 0, .int .i64 0, .int .i64 0, .str ⟨#[]⟩]), eqok := true } := by kernel_rfl
@[go_sem] theorem tab162 : mkTab Tryz.prog 162 = some { k := .arr 4 5, size := 4, bytes := 4, zero := some (.agg [.int .u8 0, .int .u8 0, .int .u8 0, .int .u8 0]), eqok := true } := by kernel_rfl
@[go_sem] theorem tab163 : mkTab Tryz.prog 163 = some { k := .arr 4 5, size := 4, bytes := 4, zero := some (.agg [.int .u8 0, .int .u8 0, .int .u8 0, .int .u8 0]), eqok := true } := by kernel_rfl
@[go_sem] theorem tab164 : mkTab Tryz.prog 164 = some { k := .struct [(3, 0), (4, 1), (3, 2), (3, 3), (3, 4), (163, 5), (163, 9), (9, 13)] true, size := 14, bytes := 64, zero := some (.agg [.int .i64 0, .bool false, .int .i64 0, .int .i64 0, .int .i64 0, .int .u8 0, .int .u8 0, .int .u8 0, .int .u8 0, .int .u8 0, .int .u8 0, .int .u8 0, .int .u8 0, .str ⟨#[]⟩]), eqok := true } := by kernel_rfl
@[go_sem] theorem tab165 : mkTab Tryz.prog 165 = some { k := .struct [(3, 0), (4, 1), (3, 2), (3, 3), (3, 4), (163, 5), (163, 9), (9, 13)] true, size := 14, bytes := 64, zero := some (.agg [.int .i64 0, .bool false, .int .i64 0, .int .i64 0, .int .i64 0, .int .u8 0, .int .u8 0, .int .u8 0, .int .u8 0, .int .u8 0, .int .u8 0, .int .u8 0, .int .u8 0, .str ⟨#[]⟩]), eqok := true } := by kernel_rfl
@[go_sem] theorem tab166 : mkTab Tryz.prog 166 = some { k := .struct [(161, 0), (135, 5), (3, 6), (3, 7), (9, 8), (165, 9), (4, 23), (105, 24)] true, size := 27, bytes := 192, zero := some (.agg [.int .i64 0, .int .i64 0, .int .i64 0, .int .i64 0, .str ⟨#[]⟩, .nilp, .int .i64 0, .int .i64 0, .str ⟨#[]⟩, .int .i64 0, .bool false, .int .i64 0, .int .i64 0, .int .i64 0, .int .u8 0, .int .u8 0, .int .u8 0, .int .u8 0, .int .u8 0, .int .u8 0, .int .u8 0, .int .u8 0, .str ⟨#[]⟩, .bool false, .int .i64 0, .int .i64 0, .str ⟨#[]⟩]), eqok := true } := by kernel_rfl
@[go_sem] theorem tab167 : mkTab Tryz.prog 167 = some { k := .struct [(161, 0), (135, 5), (3, 6), (3, 7), (9, 8), (165, 9), (4, 23), (105, 24)] true, size := 27, bytes := 192, zero := some (.agg [.int .i64 0, .int .i64 0, .int .i64 0, .int .i64 0, .str ⟨#[]⟩, .nilp, .int .i64 0, .int .i64 0, .str ⟨#[]⟩, .int .i64 0, .bool false, .int .i64 0, .int .i64 0, .int .i64 0, .int .u8 0, .int .u8 0, .int .u8 0, .int .u8 0, .int .u8 0, .int .u8 0, .int .u8 0, .int .u8 0, .str ⟨#[]⟩, .bool false, .int .i64 0, .int .i64 0, .str ⟨#[]⟩]), eqok := true } := by kernel_rfl
@[go_sem] theorem tab168 : mkTab Tryz.prog 168 = some { k := .func, size := 1, bytes := 8, zero := some (.nilf), eqok := true } := by kernel_rfl
@[go_sem] theorem tab170 : mkTab Tryz.prog 170 = some { k := .func, size := 1, bytes := 8, zero := some (.nilf), eqok := true } := by kernel_rfl
@[go_sem] theorem tab171 : mkTab Tryz.prog 171 = some { k := .func, size := 1, bytes := 8, zero := some (.nilf), eqok := true } := by kernel_rfl
@[go_sem] theorem tab172 : mkTab Tryz.prog 172 = some { k := .func, size := 1, bytes := 8, zero := some (.nilf), eqok := true } := by kernel_rfl
@[go_sem] theorem tab173 : mkTab Tryz.prog 173 = some { k := .func, size := 1, bytes := 8, zero := some (.nilf), eqok := true } := by kernel_rfl
@[go_sem] theorem tab174 : mkTab Tryz.prog 174 = some { k := .slice 238, size := 1, bytes := 24, zero := some (.nils), eqok := true } := by kernel_rfl
@[go_sem] theorem tab175 : mkTab Tryz.prog 175 = some { k := .struct [(174, 0), (3, 1), (3, 2)] true, size := 3, bytes := 40, zero := some (.agg [.nils, .int .i64 0, .int .i64 0]), eqok := true } := by kernel_rfl
@[go_sem] theorem tab176 : mkTab Tryz.prog 176 = some { k := .struct [(174, 0), (3, 1), (3, 2)] true, size := 3, bytes := 40, zero := some (.agg [.nils, .int .i64 0, .int .i64 0]), eqok := true } := by kernel_rfl
@[go_sem] theorem tab177 : mkTab Tryz.prog 177 = some { k := .func, size := 1, bytes := 8, zero := some (.nilf), eqok := true } := by kernel_rfl
@[go_sem] theorem tab178 : mkTab Tryz.prog 178 = some { k := .slice 9, size := 1, bytes := 24, zero := some (.nils), eqok := true } := by kernel_rfl
@[go_sem] theorem tab179 : mkTab Tryz.prog 179 = some { k := .arr 4 178, size := 4, bytes := 96, zero := some (.agg [.nils, .nils, .nils, .nils]), eqok := true } := by kernel_rfl
@[go_sem] theorem tab180 : mkTab Tryz.prog 180 = some { k := .struct [(179, 0), (3, 4), (3, 5), (3, 6), (3, 7)] true, size := 8, bytes := 128, zero := some (.agg [.nils, .nils, .nils, .nils, .int .i64 0, .int .i64 0, .int .i64 0, .int .i64 0]), eqok := true } := by kernel_rfl
@[go_sem] theorem tab181 : mkTab Tryz.prog 181 = some { k := .struct [(179, 0), (3, 4), (3, 5), (3, 6), (3, 7)] true, size := 8, bytes := 128, zero := some (.agg [.nils, .nils, .nils, .nils, .int .i64 0, .int .i64 0, .int .i64 0, .int .i64 0]), eqok := true } := by kernel_rfl
@[go_sem] theorem tab182 : mkTab Tryz.prog 182 = some { k := .int .u64, size := 1, bytes := 8, zero := some (.int .u64 0), eqok := true } := by kernel_rfl
@[go_sem] theorem tab183 : mkTab Tryz.prog 183 = some { k := .struct [(4, 0), (3, 1)] true, size := 2, bytes := 16, zero := some (.agg [.bool false, .int .i64 0]), eqok := true } := by kernel_rfl
@[go_sem] theorem tab184 : mkTab Tryz.prog 184 = some { k := .struct [(4, 0), (3, 1)] true, size := 2, bytes := 16, zero := some (.agg [.bool false, .int .i64 0]), eqok := true } := by kernel_rfl
@[go_sem] theorem tab185 : mkTab Tryz.prog 185 = some { k := .struct [(182, 0), (184, 1), (3, 3), (3, 4)] true, size := 5, bytes := 40, zero := some (.agg [.int .u64 0, .bool false, .int .i64 0, .int .i64 0, .int .i64 0]), eqok := true } := by kernel_rfl
@[go_sem] theorem tab186 : mkTab Tryz.prog 186 = some { k := .struct [(182, 0), (184, 1), (3, 3), (3, 4)] true, size := 5, bytes := 40, zero := some (.agg [.int .u64 0, .bool false, .int .i64 0, .int .i64 0, .int .i64 0]), eqok := true } := by kernel_rfl
@[go_sem] theorem tab187 : mkTab Tryz.prog 187 = some { k := .func, size := 1, bytes := 8, zero := some (.nilf), eqok := true } := by kernel_rfl
@[go_sem] theorem tab188 : mkTab Tryz.prog 188 = some { k := .func, size := 1, bytes := 8, zero := some (.nilf), eqok := true } := by kernel_rfl
@[go_sem] theorem tab189 : mkTab Tryz.prog 189 = some { k := .struct [(4, 0), (3, 1), (3, 2), (4, 3), (3, 4), (3, 5)] true, size := 6, bytes := 48, zero := some (.agg [.bool false, .int .i64 0, .int .i64 0, .bool false, .int .i64 0, .int .i64 0]), eqok := true } := by kernel_rfl
@[go_sem] theorem tab190 : mkTab Tryz.prog 190 = some { k := .struct [(4, 0), (3, 1), (3, 2), (4, 3), (3, 4), (3, 5)] true, size := 6, bytes := 48, zero := some (.agg [.bool false, .int .i64 0, .int .i64 0, .bool false, .int .i64 0, .int .i64 0]), eqok := true } := by kernel_rfl
@[go_sem] theorem tab191 : mkTab Tryz.prog 191 = some { k := .slice 290, size := 1, bytes := 24, zero := some (.nils), eqok := true } := by kernel_rfl
@[go_sem] theorem tab192 : mkTab Tryz.prog 192 = some { k := .struct [(191, 0), (3, 1), (3, 2), (3, 3), (3, 4), (3, 5)] true, size := 6, bytes := 64, zero := some (.agg [.nils, .int .i64 0, .int .i64 0, .int .i64 0, .int .i64 0, .int .i64 0]), eqok := true } := by kernel_rfl
@[go_sem] theorem tab193 : mkTab Tryz.prog 193 = some { k := .struct [(191, 0), (3, 1), (3, 2), (3, 3), (3, 4), (3, 5)] true, size := 6, bytes := 64, zero := some (.agg [.nils, .int .i64 0, .int .i64 0, .int .i64 0, .int .i64 0, .int .i64 0]), eqok := true } := by kernel_rfl
@[go_sem] theorem tab194 : mkTab Tryz.prog 194 = some { k := .ptr 196, size := 1, bytes := 8, zero := some (.nilp), eqok := true } := by kernel_rfl
@[go_sem] theorem tab195 : mkTab Tryz.prog 195 = some { k := .struct [(9, 0), (3, 1), (4, 2)] true, size := 3, bytes := 32, zero := some (.agg [.str ⟨#[]⟩, .int .i64 0, .bool false]), eqok := true } := by kernel_rfl
@[go_sem] theorem tab196 : mkTab Tryz.prog 196 = some { k := .struct [(9, 0), (3, 1), (4, 2)] true, size := 3, bytes := 32, zero := some (.agg [.str ⟨#[]⟩, .int .i64 0, .bool false]), eqok := true } := by kernel_rfl
@[go_sem] theorem tab197 : mkTab Tryz.prog 197 = some { k := .ptr 199, size := 1, bytes := 8, zero := some (.nilp), eqok := true } := by kernel_rfl
@[go_sem] theorem tab198 : mkTab Tryz.prog 198 = some { k := .struct [(178, 0), (3, 1), (4, 2)] true, size := 3, bytes := 40, zero := some (.agg [.nils, .int .i64 0, .bool false]), eqok := true } := by kernel_rfl
@[go_sem] theorem tab199 : mkTab Tryz.prog 199 = some { k := .struct [(178, 0), (3, 1), (4, 2)] true, size := 3, bytes := 40, zero := some (.agg [.nils, .int .i64 0, .bool false]), eqok := true } := by kernel_rfl
@[go_sem] theorem tab200 : mkTab Tryz.prog 200 = some { k := .func, size := 1, bytes := 8, zero := some (.nilf), eqok := true } := by kernel_rfl
@[go_sem] theorem tab201 : mkTab Tryz.prog 201 = some { k := .func, size := 1, bytes := 8, zero := some (.nilf), eqok := true } := by kernel_rfl
@[go_sem] theorem tab203 : mkTab Tryz.prog 203 = some { k := .func, size := 1, bytes := 8, zero := some (.nilf), eqok := true } := by kernel_rfl
@[go_sem] theorem tab204 : mkTab Tryz.prog 204 = some { k := .func, size := 1, bytes := 8, zero := some (.nilf), eqok := true } := by kernel_rfl
@[go_sem] theorem tab205 : mkTab Tryz.prog 205 = some { k := .func, size := 1, bytes := 8, zero := some (.nilf), eqok := true } := by kernel_rfl
@[go_sem] theorem tab206 : mkTab Tryz.prog 206 = some { k := .func, size := 1, bytes := 8, zero := some (.nilf), eqok := true } := by kernel_rfl
@[go_sem] theorem tab208 : mkTab Tryz.prog 208 = some { k := .func, size := 1, bytes := 8, zero := some (.nilf), eqok := true } := by kernel_rfl
@[go_sem] theorem tab209 : mkTab Tryz.prog 209 = some { k := .arr 2 9, size := 2, bytes := 32, zero := some (.agg [.str ⟨#[]⟩, .str ⟨#[]⟩]), eqok := true } := by kernel_rfl
@[go_sem] theorem tab210 : mkTab Tryz.prog 210 = some { k := .func, size := 1, bytes := 8, zero := some (.nilf), eqok := true } := by kernel_rfl
@[go_sem] theorem tab211 : mkTab Tryz.prog 211 = some { k := .struct [(3, 0), (3, 1), (3, 2), (209, 3)] true, size := 5, bytes := 56, zero := some (.agg [.int .i64 0, .int .i64 0, .int .i64 0, .str ⟨#[]⟩, .str ⟨#[]⟩]), eqok := true } := by kernel_rfl
@[go_sem] theorem tab212 : mkTab Tryz.prog 212 = some { k := .struct [(3, 0), (3, 1), (3, 2), (209, 3)] true, size := 5, bytes := 56, zero := some (.agg [.int .i64 0, .int .i64 0, .int .i64 0, .str ⟨#[]⟩, .str ⟨#[]⟩]), eqok := true } := by kernel_rfl
@[go_sem] theorem tab213 : mkTab Tryz.prog 213 = some { k := .slice 168, size := 1, bytes := 24, zero := some (.nils), eqok := true } := by kernel_rfl
@[go_sem] theorem tab215 : mkTab Tryz.prog 215 = some { k := .func, size := 1, bytes := 8, zero := some (.nilf), eqok := true } := by kernel_rfl
@[go_sem] theorem tab216 : mkTab Tryz.prog 216 = some { k := .map 225 223, size := 1, bytes := 8, zero := some (.nilm), eqok := true } := by kernel_rfl
@[go_sem] theorem tab217 : mkTab Tryz.prog 217 = some { k := .slice 225, size := 1, bytes := 24, zero := some (.nils), eqok := true } := by kernel_rfl
@[go_sem] theorem tab218 : mkTab Tryz.prog 218 = some { k := .struct [(216, 0), (217, 1), (3, 2), (3, 3), (3, 4), (3, 5)] true, size := 6, bytes := 64, zero := some (.agg [.nilm, .nils, .int .i64 0, .int .i64 0, .int .i64 0, .int .i64 0]), eqok := true } := by kernel_rfl
@[go_sem] theorem tab219 : mkTab Tryz.prog 219 = some { k := .struct [(216, 0), (217, 1), (3, 2), (3, 3), (3, 4), (3, 5)] true, size := 6, bytes := 64, zero := some (.agg [.nilm, .nils, .int .i64 0, .int .i64 0, .int .i64 0, .int .i64 0]), eqok := true } := by kernel_rfl
@[go_sem] theorem tab220 : mkTab Tryz.prog 220 = some { k := .slice 5, size := 1, bytes := 24, zero := some (.nils), eqok := true } := by kernel_rfl
@[go_sem] theorem tab221 : mkTab Tryz.prog 221 = some { k := .struct [(3, 0), (220, 1)] true, size := 2, bytes := 32, zero := some (.agg [.int .i64 0, .nils]), eqok := true } := by kernel_rfl
@[go_sem] theorem tab222 : mkTab Tryz.prog 222 = some { k := .struct [(3, 0), (220, 1)] true, size := 2, bytes := 32, zero := some (.agg [.int .i64 0, .nils]), eqok := true } := by kernel_rfl
@[go_sem] theorem tab223 : mkTab Tryz.prog 223 = some { k := .ptr 222, size := 1, bytes := 8, zero := some (.nilp), eqok := true } := by kernel_rfl
@[go_sem] theorem tab224 : mkTab Tryz.prog 224 = some { k := .struct [(163, 0), (163, 4), (3, 8), (3, 9)] true, size := 10, bytes := 24, zero := some (.agg [.int .u8 0, .int .u8 0, .int .u8 0, .int .u8 0, .int .u8 0, .int .u8 0, .int .u8 0, .int .u8 0, .int .i64 0, .int .i64 0]), eqok := true } := by kernel_rfl
@[go_sem] theorem tab225 : mkTab Tryz.prog 225 = some { k := .struct [(163, 0), (163, 4), (3, 8), (3, 9)] true, size := 10, bytes := 24, zero := some (.agg [.int .u8 0, .int .u8 0, .int .u8 0, .int .u8 0, .int .u8 0, .int .u8 0, .int .u8 0, .int .u8 0, .int .i64 0, .int .i64 0]), eqok := true } := by kernel_rfl
@[go_sem] theorem tab226 : mkTab Tryz.prog 226 = some { k := .func, size := 1, bytes := 8, zero := some (.nilf), eqok := true } := by kernel_rfl
@[go_sem] theorem tab227 : mkTab Tryz.prog 227 = some { k := .func, size := 1, bytes := 8, zero := some (.nilf), eqok := true } := by kernel_rfl
@[go_sem] theorem tab229 : mkTab Tryz.prog 229 = some { k := .func, size := 1, bytes := 8, zero := some (.nilf), eqok := true } := by kernel_rfl
@[go_sem] theorem tab231 : mkTab Tryz.prog 231 = some { k := .func, size := 1, bytes := 8, zero := some (.nilf), eqok := true } := by kernel_rfl
@[go_sem] theorem tab232 : mkTab Tryz.prog 232 = some { k := .func, size := 1, bytes := 8, zero := some (.nilf), eqok := true } := by kernel_rfl
@[go_sem] theorem tab236 : mkTab Tryz.prog 236 = some { k := .func, size := 1, bytes := 8, zero := some (.nilf), eqok := true } := by kernel_rfl
@[go_sem] theorem tab237 : mkTab Tryz.prog 237 = some { k := .struct [(3, 0), (9, 1), (3, 2), (3, 3)] true, size := 4, bytes := 40, zero := some (.agg [.int .i64 0, .str ⟨#[]⟩, .int .i64 0, .int .i64 0]), eqok := true } := by kernel_rfl
@[go_sem] theorem tab238 : mkTab Tryz.prog 238 = some { k := .struct [(3, 0), (9, 1), (3, 2), (3, 3)] true, size := 4, bytes := 40, zero := some (.agg [.int .i64 0, .str ⟨#[]⟩, .int .i64 0, .int .i64 0]), eqok := true } := by kernel_rfl
@[go_sem] theorem tab240 : mkTab Tryz.prog 240 = some { k := .func, size := 1, bytes := 8, zero := some (.nilf), eqok := true } := by kernel_rfl
@[go_sem] theorem tab242 : mkTab Tryz.prog 242 = some { k := .func, size := 1, bytes := 8, zero := some (.nilf), eqok := true } := by kernel_rfl
@[go_sem] theorem tab244 : mkTab Tryz.prog 244 = some { k := .func, size := 1, bytes := 8, zero := some (.nilf), eqok := true } := by kernel_rfl
@[go_sem] theorem tab246 : mkTab Tryz.prog 246 = some { k := .func, size := 1, bytes := 8, zero := some (.nilf), eqok := true } := by kernel_rfl
@[go_sem] theorem tab248 : mkTab Tryz.prog 248 = some { k := .func, size := 1, bytes := 8, zero := some (.nilf), eqok := true } := by kernel_rfl
@[go_sem] theorem tab250 : mkTab Tryz.prog 250 = some { k := .func, size := 1, bytes := 8, zero := some (.nilf), eqok := true } := by kernel_rfl
@[go_sem] theorem tab251 : mkTab Tryz.prog 251 = some { k := .struct [(163, 0), (163, 4), (3, 8), (3, 9)] true, size := 10, bytes := 24, zero := some (.agg [.int .u8 0, .int .u8 0, .int .u8 0, .int .u8 0, .int .u8 0, .int .u8 0, .int .u8 0, .int .u8 0, .int .i64 0, .int .i64 0]), eqok := true } := by kernel_rfl
@[go_sem] theorem tab252 : mkTab Tryz.prog 252 = some { k := .struct [(163, 0), (163, 4), (3, 8), (3, 9)] true, size := 10, bytes := 24, zero := some (.agg [.int .u8 0, .int .u8 0, .int .u8 0, .int .u8 0, .int .u8 0, .int .u8 0, .int .u8 0, .int .u8 0, .int .i64 0, .int .i64 0]), eqok := true } := by kernel_rfl
@[go_sem] theorem tab254 : mkTab Tryz.prog 254 = some { k := .func, size := 1, bytes := 8, zero := some (.nilf), eqok := true } := by kernel_rfl
@[go_sem] theorem tab255 : mkTab Tryz.prog 255 = some { k := .func, size := 1, bytes := 8, zero := some (.nilf), eqok := true } := by kernel_rfl
@[go_sem] theorem tab256 : mkTab Tryz.prog 256 = some { k := .func, size := 1, bytes := 8, zero := some (.nilf), eqok := true } := by kernel_rfl
@[go_sem] theorem tab257 : mkTab Tryz.prog 257 = some { k := .func, size := 1, bytes := 8, zero := some (.nilf), eqok := true } := by kernel_rfl
@[go_sem] theorem tab258 : mkTab Tryz.prog 258 = some { k := .func, size := 1, bytes := 8, zero := some (.nilf), eqok := true } := by kernel_rfl
@[go_sem] theorem tab259 : mkTab Tryz.prog 259 = some { k := .func, size := 1, bytes := 8, zero := some (.nilf), eqok := true } := by kernel_rfl
@[go_sem] theorem tab260 : mkTab Tryz.prog 260 = some { k := .func, size := 1, bytes := 8, zero := some (.nilf), eqok := true } := by kernel_rfl
@[go_sem] theorem tab261 : mkTab Tryz.prog 261 = some { k := .slice 165, size := 1, bytes := 24, zero := some (.nils), eqok := true } := by kernel_rfl
@[go_sem] theorem tab263 : mkTab Tryz.prog 263 = some { k := .func, size := 1, bytes := 8, zero := some (.nilf), eqok := true } := by kernel_rfl
@[go_sem] theorem tab264 : mkTab Tryz.prog 264 = some { k := .func, size := 1, bytes := 8, zero := some (.nilf), eqok := true } := by kernel_rfl
@[go_sem] theorem tab265 : mkTab Tryz.prog 265 = some { k := .func, size := 1, bytes := 8, zero := some (.nilf), eqok := true } := by kernel_rfl
@[go_sem] theorem tab266 : mkTab Tryz.prog 266 = some { k := .func, size := 1, bytes := 8, zero := some (.nilf), eqok := true } := by kernel_rfl
@[go_sem] theorem tab267 : mkTab Tryz.prog 267 = some { k := .arr 6 5, size := 6, bytes := 6, zero := some (.agg [.int .u8 0, .int .u8 0, .int .u8 0, .int .u8 0, .int .u8 0, .int .u8 0]), eqok := true } := by kernel_rfl
@[go_sem] theorem tab268 : mkTab Tryz.prog 268 = some { k := .arr 6 5, size := 6, bytes := 6, zero := some (.agg [.int .u8 0, .int .u8 0, .int .u8 0, .int .u8 0, .int .u8 0, .int .u8 0]), eqok := true } := by kernel_rfl
@[go_sem] theorem tab270 : mkTab Tryz.prog 270 = some { k := .func, size := 1, bytes := 8, zero := some (.nilf), eqok := true } := by kernel_rfl
@[go_sem] theorem tab271 : mkTab Tryz.prog 271 = some { k := .func, size := 1, bytes := 8, zero := some (.nilf), eqok := true } := by kernel_rfl
@[go_sem] theorem tab272 : mkTab Tryz.prog 272 = some { k := .struct [(3, 0), (3, 1)] true, size := 2, bytes := 16, zero := some (.agg [.int .i64 0, .int .i64 0]), eqok := true } := by kernel_rfl
@[go_sem] theorem tab273 : mkTab Tryz.prog 273 = some { k := .struct [(3, 0), (3, 1)] true, size := 2, bytes := 16, zero := some (.agg [.int .i64 0, .int .i64 0]), eqok := true } := by kernel_rfl
@[go_sem] theorem tab274 : mkTab Tryz.prog 274 = some { k := .ptr 276, size := 1, bytes := 8, zero := some (.nilp), eqok := true } := by kernel_rfl
@[go_sem] theorem tab275 : mkTab Tryz.prog 275 = some { k := .struct [(220, 0), (4, 1)] true, size := 2, bytes := 32, zero := some (.agg [.nils, .bool false]), eqok := true } := by kernel_rfl
@[go_sem] theorem tab276 : mkTab Tryz.prog 276 = some { k := .struct [(220, 0), (4, 1)] true, size := 2, bytes := 32, zero := some (.agg [.nils, .bool false]), eqok := true } := by kernel_rfl
@[go_sem] theorem tab277 : mkTab Tryz.prog 277 = some { k := .func, size := 1, bytes := 8, zero := some (.nilf), eqok := true } := by kernel_rfl
@[go_sem] theorem tab278 : mkTab Tryz.prog 278 = some { k := .func, size := 1, bytes := 8, zero := some (.nilf), eqok := true } := by kernel_rfl
@[go_sem] theorem tab279 : mkTab Tryz.prog 279 = some { k := .func, size := 1, bytes := 8, zero := some (.nilf), eqok := true } := by kernel_rfl
@[go_sem] theorem tab280 : mkTab Tryz.prog 280 = some { k := .func, size := 1, bytes := 8, zero := some (.nilf), eqok := true } := by kernel_rfl
@[go_sem] theorem tab281 : mkTab Tryz.prog 281 = some { k := .func, size := 1, bytes := 8, zero := some (.nilf), eqok := true } := by kernel_rfl
@[go_sem] theorem tab282 : mkTab Tryz.prog 282 = some { k := .ptr 334, size := 1, bytes := 8, zero := some (.nilp), eqok := true } := by kernel_rfl
@[go_sem] theorem tab283 : mkTab Tryz.prog 283 = some { k := .func, size := 1, bytes := 8, zero := some (.nilf), eqok := true } := by kernel_rfl
@[go_sem] theorem tab285 : mkTab Tryz.prog 285 = some { k := .func, size := 1, bytes := 8, zero := some (.nilf), eqok := true } := by kernel_rfl
@[go_sem] theorem tab286 : mkTab Tryz.prog 286 = some { k := .func, size := 1, bytes := 8, zero := some (.nilf), eqok := true } := by kernel_rfl
@[go_sem] theorem tab287 : mkTab Tryz.prog 287 = some { k := .func, size := 1, bytes := 8, zero := some (.nilf), eqok := true } := by kernel_rfl
@[go_sem] theorem tab288 : mkTab Tryz.prog 288 = some { k := .func, size := 1, bytes := 8, zero := some (.nilf), eqok := true } := by kernel_rfl
@[go_sem] theorem tab289 : mkTab Tryz.prog 289 = some { k := .struct [(3, 0), (3, 1), (182, 2)] true, size := 3, bytes := 24, zero := some (.agg [.int .i64 0, .int .i64 0, .int .u64 0]), eqok := true } := by kernel_rfl
@[go_sem] theorem tab290 : mkTab Tryz.prog 290 = some { k := .struct [(3, 0), (3, 1), (182, 2)] true, size := 3, bytes := 24, zero := some (.agg [.int .i64 0, .int .i64 0, .int .u64 0]), eqok := true } := by kernel_rfl
@[go_sem] theorem tab291 : mkTab Tryz.prog 291 = some { k := .func, size := 1, bytes := 8, zero := some (.nilf), eqok := true } := by kernel_rfl
@[go_sem] theorem tab292 : mkTab Tryz.prog 292 = some { k := .func, size := 1, bytes := 8, zero := some (.nilf), eqok := true } := by kernel_rfl
@[go_sem] theorem tab293 : mkTab Tryz.prog 293 = some { k := .func, size := 1, bytes := 8, zero := some (.nilf), eqok := true } := by kernel_rfl
@[go_sem] theorem tab294 : mkTab Tryz.prog 294 = some { k := .func, size := 1, bytes := 8, zero := some (.nilf), eqok := true } := by kernel_rfl
@[go_sem] theorem tab295 : mkTab Tryz.prog 295 = some { k := .func, size := 1, bytes := 8, zero := some (.nilf), eqok := true } := by kernel_rfl
@[go_sem] theorem tab297 : mkTab Tryz.prog 297 = some { k := .func, size := 1, bytes := 8, zero := some (.nilf), eqok := true } := by kernel_rfl
@[go_sem] theorem tab298 : mkTab Tryz.prog 298 = some { k := .func, size := 1, bytes := 8, zero := some (.nilf), eqok := true } := by kernel_rfl
@[go_sem] theorem tab299 : mkTab Tryz.prog 299 = some { k := .func, size := 1, bytes := 8, zero := some (.nilf), eqok := true } := by kernel_rfl
@[go_sem] theorem tab300 : mkTab Tryz.prog 300 = some { k := .func, size := 1, bytes := 8, zero := some (.nilf), eqok := true } := by kernel_rfl
@[go_sem] theorem tab301 : mkTab Tryz.prog 301 = some { k := .func, size := 1, bytes := 8, zero := some (.nilf), eqok := true } := by kernel_rfl
@[go_sem] theorem tab302 : mkTab Tryz.prog 302 = some { k := .func, size := 1, bytes := 8, zero := some (.nilf), eqok := true } := by kernel_rfl
@[go_sem] theorem tab303 : mkTab Tryz.prog 303 = some { k := .func, size := 1, bytes := 8, zero := some (.nilf), eqok := true } := by kernel_rfl
@[go_sem] theorem tab304 : mkTab Tryz.prog 304 = some { k := .func, size := 1, bytes := 8, zero := some (.nilf), eqok := true } := by kernel_rfl
@[go_sem] theorem tab305 : mkTab Tryz.prog 305 = some { k := .int .i64, size := 1, bytes := 8, zero := some (.int .i64 0), eqok := true } := by kernel_rfl
@[go_sem] theorem tab307 : mkTab Tryz.prog 307 = some { k := .func, size := 1, bytes := 8, zero := some (.nilf), eqok := true } := by kernel_rfl
@[go_sem] theorem tab308 : mkTab Tryz.prog 308 = some { k := .func, size := 1, bytes := 8, zero := some (.nilf), eqok := true } := by kernel_rfl
@[go_sem] theorem tab309 : mkTab Tryz.prog 309 = some { k := .func, size := 1, bytes := 8, zero := some (.nilf), eqok := true } := by kernel_rfl
@[go_sem] theorem tab310 : mkTab Tryz.prog 310 = some { k := .func, size := 1, bytes := 8, zero := some (.nilf), eqok := true } := by kernel_rfl
@[go_sem] theorem tab311 : mkTab Tryz.prog 311 = some { k := .func, size := 1, bytes := 8, zero := some (.nilf), eqok := true } := by kernel_rfl
@[go_sem] theorem tab312 : mkTab Tryz.prog 312 = some { k := .func, size := 1, bytes := 8, zero := some (.nilf), eqok := true } := by kernel_rfl
@[go_sem] theorem tab313 : mkTab Tryz.prog 313 = some { k := .int .u32, size := 1, bytes := 4, zero := some (.int .u32 0), eqok := true } := by kernel_rfl
@[go_sem] theorem tab314 : mkTab Tryz.prog 314 = some { k := .func, size := 1, bytes := 8, zero := some (.nilf), eqok := true } := by kernel_rfl
@[go_sem] theorem tab315 : mkTab Tryz.prog 315 = some { k := .int .u64, size := 1, bytes := 8, zero := some (.int .u64 0), eqok := true } := by kernel_rfl
@[go_sem] theorem tab316 : mkTab Tryz.prog 316 = some { k := .func, size := 1, bytes := 8, zero := some (.nilf), eqok := true } := by kernel_rfl
@[go_sem] theorem tab317 : mkTab Tryz.prog 317 = some { k := .func, size := 1, bytes := 8, zero := some (.nilf), eqok := true } := by kernel_rfl
@[go_sem] theorem tab318 : mkTab Tryz.prog 318 = some { k := .func, size := 1, bytes := 8, zero := some (.nilf), eqok := true } := by kernel_rfl
@[go_sem] theorem tab319 : mkTab Tryz.prog 319 = some { k := .func, size := 1, bytes := 8, zero := some (.nilf), eqok := true } := by kernel_rfl
@[go_sem] theorem tab320 : mkTab Tryz.prog 320 = some { k := .func, size := 1, bytes := 8, zero := some (.nilf), eqok := true } := by kernel_rfl
@[go_sem] theorem tab321 : mkTab Tryz.prog 321 = some { k := .func, size := 1, bytes := 8, zero := some (.nilf), eqok := true } := by kernel_rfl
@[go_sem] theorem tab323 : mkTab Tryz.prog 323 = some { k := .func, size := 1, bytes := 8, zero := some (.nilf), eqok := true } := by kernel_rfl
@[go_sem] theorem tab324 : mkTab Tryz.prog 324 = some { k := .func, size := 1, bytes := 8, zero := some (.nilf), eqok := true } := by kernel_rfl
@[go_sem] theorem tab325 : mkTab Tryz.prog 325 = some { k := .ptr 327, size := 1, bytes := 8, zero := some (.nilp), eqok := true } := by kernel_rfl
@[go_sem] theorem tab326 : mkTab Tryz.prog 326 = some { k := .struct [(325, 0), (220, 1)] true, size := 2, bytes := 32, zero := some (.agg [.nilp, .nils]), eqok := true } := by kernel_rfl
@[go_sem] theorem tab327 : mkTab Tryz.prog 327 = some { k := .struct [(325, 0), (220, 1)] true, size := 2, bytes := 32, zero := some (.agg [.nilp, .nils]), eqok := true } := by kernel_rfl
@[go_sem] theorem tab328 : mkTab Tryz.prog 328 = some { k := .iface false, size := 1, bytes := 16, zero := some (.nili), eqok := true } := by kernel_rfl
@[go_sem] theorem tab329 : mkTab Tryz.prog 329 = some { k := .iface false, size := 1, bytes := 16, zero := some (.nili), eqok := true } := by kernel_rfl
@[go_sem] theorem tab331 : mkTab Tryz.prog 331 = some { k := .func, size := 1, bytes := 8, zero := some (.nilf), eqok := true } := by kernel_rfl
@[go_sem] theorem tab332 : mkTab Tryz.prog 332 = some { k := .func, size := 1, bytes := 8, zero := some (.nilf), eqok := true } := by kernel_rfl
@[go_sem] theorem tab333 : mkTab Tryz.prog 333 = some { k := .struct [(9, 0), (31, 1)] true, size := 2, bytes := 24, zero := some (.agg [.str ⟨#[]⟩, .int .i64 0]), eqok := true } := by kernel_rfl
@[go_sem] theorem tab334 : mkTab Tryz.prog 334 = some { k := .struct [(9, 0), (31, 1)] true, size := 2, bytes := 24, zero := some (.agg [.str ⟨#[]⟩, .int .i64 0]), eqok := true } := by kernel_rfl
@[go_sem] theorem tab335 : mkTab Tryz.prog 335 = some { k := .func, size := 1, bytes := 8, zero := some (.nilf), eqok := true } := by kernel_rfl
@[go_sem] theorem tab337 : mkTab Tryz.prog 337 = some { k := .func, size := 1, bytes := 8, zero := some (.nilf), eqok := true } := by kernel_rfl
@[go_sem] theorem tab338 : mkTab Tryz.prog 338 = some { k := .func, size := 1, bytes := 8, zero := some (.nilf), eqok := true } := by kernel_rfl
@[go_sem] theorem tab339 : mkTab Tryz.prog 339 = some { k := .slice 81, size := 1, bytes := 24, zero := some (.nils), eqok := true } := by kernel_rfl
@[go_sem] theorem tab340 : mkTab Tryz.prog 340 = some { k := .func, size := 1, bytes := 8, zero := some (.nilf), eqok := true } := by kernel_rfl
@[go_sem] theorem tab341 : mkTab Tryz.prog 341 = some { k := .ptr 290, size := 1, bytes := 8, zero := some (.nilp), eqok := true } := by kernel_rfl
@[go_sem] theorem tab342 : mkTab Tryz.prog 342 = some { k := .func, size := 1, bytes := 8, zero := some (.nilf), eqok := true } := by kernel_rfl
@[go_sem] theorem tab343 : mkTab Tryz.prog 343 = some { k := .int .u16, size := 1, bytes := 2, zero := some (.int .u16 0), eqok := true } := by kernel_rfl
@[go_sem] theorem tab344 : mkTab Tryz.prog 344 = some { k := .int .u64, size := 1, bytes := 8, zero := some (.int .u64 0), eqok := true } := by kernel_rfl
@[go_sem] theorem tab345 : mkTab Tryz.prog 345 = some { k := .func, size := 1, bytes := 8, zero := some (.nilf), eqok := true } := by kernel_rfl
@[go_sem] theorem tab346 : mkTab Tryz.prog 346 = some { k := .func, size := 1, bytes := 8, zero := some (.nilf), eqok := true } := by kernel_rfl
@[go_sem] theorem tab347 : mkTab Tryz.prog 347 = some { k := .func, size := 1, bytes := 8, zero := some (.nilf), eqok := true } := by kernel_rfl
@[go_sem] theorem tab348 : mkTab Tryz.prog 348 = some { k := .ptr 3, size := 1, bytes := 8, zero := some (.nilp), eqok := true } := by kernel_rfl
@[go_sem] theorem tab349 : mkTab Tryz.prog 349 = some { k := .func, size := 1, bytes := 8, zero := some (.nilf), eqok := true } := by kernel_rfl
@[go_sem] theorem tab350 : mkTab Tryz.prog 350 = some { k := .func, size := 1, bytes := 8, zero := some (.nilf), eqok := true } := by kernel_rfl
@[go_sem] theorem tab352 : mkTab Tryz.prog 352 = some { k := .func, size := 1, bytes := 8, zero := some (.nilf), eqok := true } := by kernel_rfl
@[go_sem] theorem tab354 : mkTab Tryz.prog 354 = some { k := .func, size := 1, bytes := 8, zero := some (.nilf), eqok := true } := by kernel_rfl
@[go_sem] theorem tab355 : mkTab Tryz.prog 355 = some { k := .ptr 5, size := 1, bytes := 8, zero := some (.nilp), eqok := true } := by kernel_rfl
@[go_sem] theorem tab356 : mkTab Tryz.prog 356 = some { k := .ptr 367, size := 1, bytes := 8, zero := some (.nilp), eqok := true } := by kernel_rfl
@[go_sem] theorem tab357 : mkTab Tryz.prog 357 = some { k := .func, size := 1, bytes := 8, zero := some (.nilf), eqok := true } := by kernel_rfl
@[go_sem] theorem tab358 : mkTab Tryz.prog 358 = some { k := .func, size := 1, bytes := 8, zero := some (.nilf), eqok := true } := by kernel_rfl
@[go_sem] theorem tab359 : mkTab Tryz.prog 359 = some { k := .func, size := 1, bytes := 8, zero := some (.nilf), eqok := true } := by kernel_rfl
@[go_sem] theorem tab360 : mkTab Tryz.prog 360 = some { k := .ptr 344, size := 1, bytes := 8, zero := some (.nilp), eqok := true } := by kernel_rfl
@[go_sem] theorem tab362 : mkTab Tryz.prog 362 = some { k := .func, size := 1, bytes := 8, zero := some (.nilf), eqok := true } := by kernel_rfl
@[go_sem] theorem tab365 : mkTab Tryz.prog 365 = some { k := .func, size := 1, bytes := 8, zero := some (.nilf), eqok := true } := by kernel_rfl
@[go_sem] theorem tab366 : mkTab Tryz.prog 366 = some { k := .arr 256 313, size := 256, bytes := 1024, zero := some (.agg (List.replicate 256 (.int .u32 0))), eqok := true } := by kernel_rfl
@[go_sem] theorem tab367 : mkTab Tryz.prog 367 = some { k := .arr 256 313, size := 256, bytes := 1024, zero := some (.agg (List.replicate 256 (.int .u32 0))), eqok := true } := by kernel_rfl
end Go.Proofs.YtbhhmnfjjnnkiaaGreat
