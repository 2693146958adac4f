/- CrcTable: what the table has at each place, and what bytes do to any number. -/
import Derived.Test.YtceidfifaoooiaaRows
import Derived.WalkKit
import Derived.ProofKit
import Derived.OpenShut
import Derived.ShutString
import Derived.ChangeOld
import Derived.Below
import Derived.Test.YtceidfifaoooiaaC3
set_option linter.unusedVariables false
set_option linter.unusedSimpArgs false
set_option maxRecDepth 10000
namespace Go.Proofs.Ytceidfifaoooiaa.crcTableDone
open Go.TM

theorem table_take (i : Nat) (h : i < 256) : tabInt i = .int .u32 (n32 (takeB 0#32 (UInt8.ofNat i))) := by
  unfold tabInt takeB
  rw [← shiftN_n32, BitVec.zero_xor]
  congr 2
  show (i : Int) = ((BitVec.setWidth 32 (UInt8.ofNat i).toBitVec).toNat : Int)
  rw [BitVec.toNat_setWidth, UInt8.toNat_toBitVec, UInt8.toNat_ofNat']
  omega

theorem table_walk (c : BitVec 32) (s : ByteArray) : TCalls Try.prog 3 [.int .u32 (n32 c), .str s] [] fun tv _ => tv = .bool true := by
  refine tcalls_of [] Try.func3 (by kernel_rfl) rfl ?_
  show tw _ _ _ _ ([some _, some _] ++ List.replicate 51 none) _
  simp only [List.replicate, List.cons_append, List.nil_append]
  first | with_reducible refine tw_reg_seq fun K hK => ?_ | (refine tw_seq_assoc ?_; with_reducible refine tw_reg_seq fun K hK => ?_)
  simp only [List.toList_toArray]
  repeat (with_reducible refine twL_step fun Cw cw => ?_; simp only [go_sem]; refine cw _ _ ?_; clear cw Cw; simp only [tput, List.set_cons_zero, List.set_cons_succ])
  refine twL_nil.2 (hK _ _ ?_); clear hK K
  first | with_reducible refine tw_reg_seq fun K hK => ?_ | (refine tw_seq_assoc ?_; with_reducible refine tw_reg_seq fun K hK => ?_)
  simp only [List.toList_toArray]
  repeat (with_reducible refine twL_step fun Cw cw => ?_; simp only [go_sem]; refine cw _ _ ?_; clear cw Cw; simp only [tput, List.set_cons_zero, List.set_cons_succ])
  with_reducible refine twL_step fun Cw cw => ?_
  simp only [go_sem]
  refine (make_walk _).mono ?_
  rintro _ _ ⟨rfl, rfl⟩
  refine cw _ _ ?_; clear cw Cw; simp only [tput, List.set_cons_zero, List.set_cons_succ]
  repeat (with_reducible refine twL_step fun Cw cw => ?_; simp only [go_sem]; refine cw _ _ ?_; clear cw Cw; simp only [tput, List.set_cons_zero, List.set_cons_succ])
  refine twL_nil.2 (hK _ _ ?_); clear hK K
  first | with_reducible refine tw_reg_seq fun K hK => ?_ | (refine tw_seq_assoc ?_; with_reducible refine tw_reg_seq fun K hK => ?_)
  simp only [List.toList_toArray]
  repeat (with_reducible refine twL_step fun Cw cw => ?_; simp only [go_sem]; refine cw _ _ ?_; clear cw Cw; simp only [tput, List.set_cons_zero, List.set_cons_succ])
  refine twL_nil.2 (hK _ _ ?_); clear hK K
  refine tw_cond_seq rfl (fun h => ?_) (fun h5 => ?_)
  · first | with_reducible refine tw_reg_seq fun K hK => ?_ | (refine tw_seq_assoc ?_; with_reducible refine tw_reg_seq fun K hK => ?_)
    simp only [List.toList_toArray]
    repeat (with_reducible refine twL_step fun Cw cw => ?_; simp only [go_sem]; refine cw _ _ ?_; clear cw Cw; simp only [tput, List.set_cons_zero, List.set_cons_succ])
    with_reducible refine twL_step fun Cw cw => ?_
    simp only [go_sem]
    refine (awake_walk _).mono ?_
    rintro _ _ ⟨rfl, hg⟩
    refine cw _ _ ?_; clear cw Cw; simp only [tput, List.set_cons_zero, List.set_cons_succ]
    repeat (with_reducible refine twL_step fun Cw cw => ?_; simp only [go_sem]; refine cw _ _ ?_; clear cw Cw; simp only [tput, List.set_cons_zero, List.set_cons_succ])
    refine twL_nil.2 (hK _ _ ?_); clear hK K
    refine tw_ret_seq ?_
    simp only [tw, TX.inBlock, TX.then, tpost, tresults, Try.f3, List.toList_toArray, tresultL, tresult1, ev, List.getElem?_cons_zero, List.getElem?_cons_succ, Option.map_some, Option.bind_some]
  simp only [decide_eq_false_iff_not] at h5
  refine tw_skip_seq ?_
  first | with_reducible refine tw_reg_seq fun K hK => ?_ | (refine tw_seq_assoc ?_; with_reducible refine tw_reg_seq fun K hK => ?_)
  simp only [List.toList_toArray]
  repeat (with_reducible refine twL_step fun Cw cw => ?_; simp only [go_sem]; refine cw _ _ ?_; clear cw Cw; simp only [tput, List.set_cons_zero, List.set_cons_succ])
  refine twL_nil.2 (hK _ _ ?_); clear hK K
  refine tw_block_seq fun K hK => ?_
  refine tw_loop (fun n m s' => ∃ (i : Nat) (iz : Int) (x2 x3 x7 x8 x9 x10 x11 x12 x13 x14 x15 x16 x17 x18 x19 x20 x21 x22 x23 x24 x25 x26 x27 x28 x29 x30 x31 x32 x33 x34 x35 x36 x37 x38 x39 x40 x41 x42 x43 x44 x45 x46 x47 x48 x49 x50 x51 x52 : Option TV), m = [some (.int .u32 (n32 c)), some (.str s), x2, x3, some (.bool false), some (.ptr 0 0), some (.int .i64 iz), x7, x8, x9, x10, x11, x12, x13, x14, x15, x16, x17, x18, x19, x20, x21, x22, x23, x24, x25, x26, x27, x28, x29, x30, x31, x32, x33, x34, x35, x36, x37, x38, x39, x40, x41, x42, x43, x44, x45, x46, x47, x48, x49, x50, x51, x52] ∧ iz = i ∧ n = 256 - i ∧ i ≤ 256 ∧ s' = [.cells (tabCells 256)]) (n := 256) ?_ ?_
  · exact ⟨0, _, _, _, _, _, _, _, _, _, _, _, _, _, _, _, _, _, _, _, _, _, _, _, _, _, _, _, _, _, _, _, _, _, _, _, _, _, _, _, _, _, _, _, _, _, _, _, _, _, rfl, rfl, rfl, by omega, rfl⟩
  rintro n m s' ⟨i, _, x2, x3, x7, x8, x9, x10, x11, x12, x13, x14, x15, x16, x17, x18, x19, x20, x21, x22, x23, x24, x25, x26, x27, x28, x29, x30, x31, x32, x33, x34, x35, x36, x37, x38, x39, x40, x41, x42, x43, x44, x45, x46, x47, x48, x49, x50, x51, x52, rfl, rfl, rfl, hi, rfl⟩
  first | with_reducible refine tw_reg_seq fun K hK => ?_ | (refine tw_seq_assoc ?_; with_reducible refine tw_reg_seq fun K hK => ?_)
  simp only [List.toList_toArray]
  repeat (with_reducible refine twL_step fun Cw cw => ?_; simp only [go_sem]; refine cw _ _ ?_; clear cw Cw; simp only [tput, List.set_cons_zero, List.set_cons_succ])
  refine twL_nil.2 (hK _ _ ?_); clear hK K
  refine tw_cond_seq rfl (fun h => ?_) (fun h => ?_)
  · refine tw_skip_seq ?_
    simp only [decide_eq_true_eq] at h
    refine tw_block_seq fun K1 hK1 => ?_
    have hlt : i < 256 := by omega
    have hb : (List.drop i (tabCells 256))[0]? = some (.int .u32 (n32 (takeB 0#32 (UInt8.ofNat i)))) := by
      rw [List.getElem?_drop, Nat.add_zero, tabCells_get _ hlt, table_take i hlt]
    have hw : IntKind.u8.wrap (i : Int) = ((UInt8.ofNat i).toNat : Int) := by
      rw [wrapU8_of (by omega) (by omega), UInt8.toNat_ofNat']
      omega
    refine tw_draw_seq (by kernel_rfl) [0, 1, 2, 3, 4, 5, 6, 7, 8] rfl (by kernel_rfl) fun K hK => ?_
    simp only [pairs, List.getElem?_toArray, List.getElem?_cons_zero, List.getElem?_cons_succ]
    repeat (first | (with_reducible refine runD_0 rfl fun Cw cw => ?_; simp only [go_sem, hlt, hb, hw]; refine cw _ _ ?_; clear cw Cw; simp only [tput, List.set_cons_zero, List.set_cons_succ]) | (with_reducible refine runD_1 rfl fun Cw cw => ?_; simp only [go_sem, hlt, hb, hw]; refine cw _ ?_; clear cw Cw; simp only [tput, List.set_cons_zero, List.set_cons_succ]))
    with_reducible refine runD_2 rfl fun Cw cw => ?_
    simp only [go_sem]
    refine (take_walk 0#32 _ _).mono ?_
    rintro _ _ ⟨rfl, rfl⟩
    refine cw _ _ ⟨?_, ?_⟩ <;> clear cw Cw
    · first | (simp only [keep, isAfter, List.filter_cons, List.filter_nil, List.toList_toArray, List.getElem?_toArray, List.getElem?_cons_zero, List.getElem?_cons_succ, List.any_cons, List.any_nil, Region.binds, Nat.reduceBEq, Bool.true_and, Bool.and_true, Bool.or_false, Bool.false_or, Bool.or_true, Bool.true_or, Bool.not_true, Bool.not_false, Bool.false_eq_true, if_true, if_false, List.forall_mem_cons, List.not_mem_nil, false_implies, implies_true, and_true, true_and]; done) | (simp only [keep, isAfter, List.filter_cons, List.filter_nil, List.toList_toArray, List.getElem?_toArray, List.getElem?_cons_zero, List.getElem?_cons_succ, List.any_cons, List.any_nil, Region.binds, Nat.reduceBEq, Bool.true_and, Bool.and_true, Bool.or_false, Bool.false_or, Bool.or_true, Bool.true_or, Bool.not_true, Bool.not_false, Bool.false_eq_true, if_true, if_false, List.forall_mem_cons, List.not_mem_nil, false_implies, implies_true, and_true, true_and]; and_intros <;> (intro Kp hp; simp only [go_sem, hb]; exact hp))
    simp only [tput, List.set_cons_zero, List.set_cons_succ]
    try simp only [keep, isAfter, List.filter_cons, List.filter_nil, List.toList_toArray, List.getElem?_toArray, List.getElem?_cons_zero, List.getElem?_cons_succ, List.any_cons, List.any_nil, Region.binds, Nat.reduceBEq, Bool.true_and, Bool.and_true, Bool.or_false, Bool.false_or, Bool.or_true, Bool.true_or, Bool.not_true, Bool.not_false, Bool.false_eq_true, if_true, if_false, List.not_mem_nil, false_implies, implies_true, and_true, true_and]
    repeat (first | (with_reducible refine runD_0 rfl fun Cw cw => ?_; simp only [go_sem, hb]; refine cw _ _ ?_; clear cw Cw; simp only [tput, List.set_cons_zero, List.set_cons_succ]) | (with_reducible refine runD_1 rfl fun Cw cw => ?_; simp only [go_sem, hb]; refine cw _ ?_; clear cw Cw; simp only [tput, List.set_cons_zero, List.set_cons_succ]))
    refine runD_nil.2 (hK _ _ ?_); clear hK K
    refine tw_cond rfl (fun h => ?_) (fun h => ?_)
    · simp at h
    refine hK1 _ _ ?_
    refine tw_reg_end fun K hK => ?_
    simp only [List.toList_toArray]
    repeat (with_reducible refine twL_step fun Cw cw => ?_; simp only [go_sem]; refine cw _ _ ?_; clear cw Cw; simp only [tput, List.set_cons_zero, List.set_cons_succ])
    refine twL_nil.2 (hK _ _ ?_); clear hK K
    exact ⟨256 - (i + 1), by omega, i + 1, _, _, _, _, _, _, _, _, _, _, _, _, _, _, _, _, _, _, _, _, _, _, _, _, _, _, _, _, _, _, _, _, _, _, _, _, _, _, _, _, _, _, _, _, _, _, _, _, _, rfl, by rw [wrap64_of (by omega) (by omega)]; omega, rfl, by omega, rfl⟩
  · refine tw_exit_seq ?_
    refine hK _ _ ?_; clear hK K
    first | with_reducible refine tw_reg_seq fun K hK => ?_ | (refine tw_seq_assoc ?_; with_reducible refine tw_reg_seq fun K hK => ?_)
    simp only [List.toList_toArray]
    repeat (with_reducible refine twL_step fun Cw cw => ?_; simp only [go_sem]; refine cw _ _ ?_; clear cw Cw; simp only [tput, List.set_cons_zero, List.set_cons_succ])
    refine twL_nil.2 (hK _ _ ?_); clear hK K
    first | with_reducible refine tw_reg_seq fun K hK => ?_ | (refine tw_seq_assoc ?_; with_reducible refine tw_reg_seq fun K hK => ?_)
    simp only [List.toList_toArray]
    repeat (with_reducible refine twL_step fun Cw cw => ?_; simp only [go_sem]; refine cw _ _ ?_; clear cw Cw; simp only [tput, List.set_cons_zero, List.set_cons_succ])
    with_reducible refine twL_step fun Cw cw => ?_
    simp only [go_sem]
    refine (go_walk (n32 c) s _ 0 rfl (by omega)).mono ?_
    rintro _ _ ⟨rfl, rfl⟩
    rw [goFold_n32]
    refine cw _ _ ?_; clear cw Cw; simp only [tput, List.set_cons_zero, List.set_cons_succ]
    repeat (with_reducible refine twL_step fun Cw cw => ?_; simp only [go_sem]; refine cw _ _ ?_; clear cw Cw; simp only [tput, List.set_cons_zero, List.set_cons_succ])
    with_reducible refine twL_step fun Cw cw => ?_
    simp only [go_sem]
    refine (refgo_walk c s _ (by omega)).mono ?_
    rintro _ _ ⟨rfl, rfl⟩
    refine cw _ _ ?_; clear cw Cw; simp only [tput, List.set_cons_zero, List.set_cons_succ]
    repeat (with_reducible refine twL_step fun Cw cw => ?_; simp only [go_sem]; refine cw _ _ ?_; clear cw Cw; simp only [tput, List.set_cons_zero, List.set_cons_succ])
    with_reducible refine twL_step fun Cw cw => ?_
    simp only [go_sem]
    refine (gonil_walk (n32 c) s _).mono ?_
    rintro _ _ ⟨rfl, rfl⟩
    refine cw _ _ ?_; clear cw Cw; simp only [tput, List.set_cons_zero, List.set_cons_succ]
    repeat (with_reducible refine twL_step fun Cw cw => ?_; simp only [go_sem]; refine cw _ _ ?_; clear cw Cw; simp only [tput, List.set_cons_zero, List.set_cons_succ])
    with_reducible refine twL_step fun Cw cw => ?_
    simp only [go_sem]
    refine (awake_walk _).mono ?_
    rintro _ _ ⟨rfl, hg⟩
    refine cw _ _ ?_; clear cw Cw; simp only [tput, List.set_cons_zero, List.set_cons_succ]
    repeat (with_reducible refine twL_step fun Cw cw => ?_; simp only [go_sem]; refine cw _ _ ?_; clear cw Cw; simp only [tput, List.set_cons_zero, List.set_cons_succ])
    refine twL_nil.2 (hK _ _ ?_); clear hK K
    simp only [tw, TX.inBlock, TX.then, tpost, tresults, Try.f3, List.toList_toArray, tresultL, tresult1, ev, List.getElem?_cons_zero, List.getElem?_cons_succ, Option.map_some, Option.bind_some]

theorem calls (tvs : List TV) (h : TyAll (mkTab Try.prog) 3 Try.f3.params.toList tvs) : TCalls Try.prog 3 tvs [] fun tv _ => tv = .bool true := by
  rw [show Try.f3.params.toList = [22, 9] by kernel_rfl] at h
  obtain ⟨a, _, rfl, ha, h⟩ := TyAll_cons h
  obtain ⟨b, _, rfl, hb, h⟩ := TyAll_cons h
  obtain rfl := TyAll_nil h
  obtain ⟨n, rfl, h0, h1⟩ := TyV_int tab22 rfl ha
  obtain ⟨t, rfl, -⟩ := TyV_str tab9 rfl hb
  have h0 : (0 : Int) ≤ n := h0
  have h1 : n ≤ 4294967295 := h1
  obtain ⟨x, rfl⟩ : ∃ x : BitVec 32, n = n32 x := ⟨BitVec.ofNat 32 n.toNat, by show n = ((BitVec.ofNat 32 n.toNat).toNat : Int); rw [BitVec.toNat_ofNat]; omega⟩
  exact table_walk x t

open Go.ChangeShapes Go.WideShapes Go.ChangeAt Go.RowKit
theorem own : ownKnob Try.prog.godebug = none := by kernel_rfl
theorem laidOut : laidOutB Try.prog = true := by kernel_rfl
set_option maxRecDepth 100000 in
theorem lifted (os : Os) (started : os.Started) (H : Type) (enc : TypeId × Value → H) :
    ReturnsInHanded {} Try.checked os 3 .any (Rows.crcTableSpec.pre6 enc Try.prog Try.f3 Rows.crcTableRow.domain false) (Rows.crcTableSpec.post enc Try.prog Try.f3 false true false false) := by
  refine returnsInHanded_of_change (C := Try.checked) own started (by kernel_rfl) Try.func3
    (ChangeSpec.witness6 (enc := enc) (C := Try.checked) false ⟨#[], #[.int .u32 0, .string ⟨#[]⟩], []⟩ 8 (by kernel_rfl) (by kernel_rfl) (by kernel_rfl) (by kernel_rfl)) ?_
  intro W base args ds gs before hval hW hcnd _
  exact law_contract (rt := 4) 3 laidOut rfl (by intro ds h; match ds, h with | [_, _], _ => rfl) (by kernel_rfl) (by kernel_rfl) (by kernel_rfl) (by kernel_rfl) calls W base args ds gs before hval hW
theorem over : Rows.crcTableRow.holds Try.pinned (OpenSpec.ofChange Rows.crcTableSpec) :=
  OpenClaim.holds_of_wide 3 Try.f3 rfl rfl rfl rfl rfl rfl rfl ⟨rfl, rfl, rfl, rfl, rfl⟩ rfl rfl rfl rfl rfl (by kernel_rfl) Try.func3 (by kernel_rfl)
    (of_decide_eq_true (by kernel_rfl)) (by unfold Func.isWrapper; first | (rw [if_pos (by decide +kernel)]; kernel_rfl) | (rw [if_neg (by decide +kernel)]; exact ⟨rfl, rfl⟩))
    (fun os started H enc _ => lifted os started H enc)
theorem proved : Rows.CrcTableSaid := over
end Go.Proofs.Ytceidfifaoooiaa.crcTableDone
