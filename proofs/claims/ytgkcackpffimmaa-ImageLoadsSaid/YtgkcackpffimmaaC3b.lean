/- The crc seat: the document's functions. -/
import Derived.Test.YtgkcackpffimmaaC3
set_option linter.unusedVariables false
set_option linter.unusedSimpArgs false
set_option maxRecDepth 10000
namespace Go.Proofs.Ytgkcackpffimmaa
open Go.TM

/- the document's -/
theorem shiftBN_succ (n : Nat) (c : BitVec 32) : shiftBN (n + 1) c = shiftB (shiftBN n c) := by
  induction n generalizing c with
  | zero => rfl
  | succ n ih => rw [shiftBN, ih]; rfl

theorem tmod2 (x : BitVec 32) : (((n32 x).tmod 2) == 1) = x.getLsbD 0 := by
  show ((((x.toNat : Int).tmod ((2 : Nat) : Int))) == ((1 : Nat) : Int)) = _
  rw [← Int.ofNat_tmod, BitVec.getLsbD, Nat.testBit_zero]
  rw [Bool.eq_iff_iff]
  simp
  omega

theorem quo2 (x : BitVec 32) : IntKind.u32.wrap ((n32 x).tdiv 2) = n32 (x >>> 1) := by
  show IntKind.u32.wrap ((x.toNat : Int).tdiv ((2 : Nat) : Int)) = ((x >>> 1).toNat : Int)
  rw [← Int.ofNat_tdiv, wrapU32_nat _ (by have := x.isLt; omega), BitVec.toNat_ushiftRight, Nat.shiftRight_eq_div_pow]

theorem shiftB_true {x : BitVec 32} (h : x.getLsbD 0 = true) : ixor .u32 (n32 (x >>> 1)) 3988292384 = n32 (shiftB x) := by
  rw [show (3988292384 : Int) = n32 0xEDB88320#32 from rfl, ixor_n32]
  unfold shiftB
  rw [if_pos h]
theorem shiftB_false {x : BitVec 32} (h : x.getLsbD 0 = false) : n32 (x >>> 1) = n32 (shiftB x) := by
  unfold shiftB
  rw [h, if_neg (by simp), BitVec.xor_zero]

theorem take_walk (c : BitVec 32) (b : UInt8) (σ : TS) :
    TCalls Try.prog 190 [.int .u32 (n32 c), .int .u8 b.toNat] σ fun r σ' => r = .int .u32 (n32 (takeB c b)) ∧ σ' = σ := by
  refine tcalls_of [] Try.func190 (by kernel_rfl) rfl ?_
  show tw _ _ _ _ ([some _, some _] ++ List.replicate 21 none) _
  simp only [List.replicate, List.cons_append, List.nil_append]
  have hx : ixor .u32 (n32 c) (IntKind.u32.wrap (b.toNat : Int)) = n32 (c ^^^ b.toBitVec.setWidth 32) := by
    rw [wrapU32_nat _ (by have := b.toNat_lt; omega), show ((b.toNat : Nat) : Int) = (b.toBitVec.toNat : Int) from rfl, byte_n32, ixor_n32]
  first | with_reducible refine tw_reg_seq fun K hK => ?_ | (refine tw_seq_assoc ?_; with_reducible refine tw_reg_seq fun K hK => ?_)
  simp only [List.toList_toArray, List.append_eq, List.cons_append, List.nil_append]
  repeat (first | (first | with_reducible refine twL_go fun Cw cw => ?_ | with_reducible refine twL_yes rfl fun Cw cw => ?_); simp only [go_sem]; (first | refine cw _ _ ?_ | refine Or.inl (cw _ _ ?_)); clear cw Cw; simp only [tput, List.set_cons_zero, List.set_cons_succ] | (with_reducible refine twL_no _ rfl rfl ?_); simp only [tput, List.set_cons_zero, List.set_cons_succ])
  refine twL_nil.2 (hK _ _ ?_); clear hK K
  first | with_reducible refine tw_reg_seq fun K hK => ?_ | (refine tw_seq_assoc ?_; with_reducible refine tw_reg_seq fun K hK => ?_)
  simp only [List.toList_toArray, List.append_eq, List.cons_append, List.nil_append]
  repeat (first | (first | with_reducible refine twL_go fun Cw cw => ?_ | with_reducible refine twL_yes rfl fun Cw cw => ?_); simp only [go_sem, hx]; (first | refine cw _ _ ?_ | refine Or.inl (cw _ _ ?_)); clear cw Cw; simp only [tput, List.set_cons_zero, List.set_cons_succ] | (with_reducible refine twL_no _ rfl rfl ?_); simp only [tput, List.set_cons_zero, List.set_cons_succ])
  refine twL_nil.2 (hK _ _ ?_); clear hK K
  first | with_reducible refine tw_reg_seq fun K hK => ?_ | (refine tw_seq_assoc ?_; with_reducible refine tw_reg_seq fun K hK => ?_)
  simp only [List.toList_toArray, List.append_eq, List.cons_append, List.nil_append]
  repeat (first | (first | with_reducible refine twL_go fun Cw cw => ?_ | with_reducible refine twL_yes rfl fun Cw cw => ?_); simp only [go_sem]; (first | refine cw _ _ ?_ | refine Or.inl (cw _ _ ?_)); clear cw Cw; simp only [tput, List.set_cons_zero, List.set_cons_succ] | (with_reducible refine twL_no _ rfl rfl ?_); simp only [tput, List.set_cons_zero, List.set_cons_succ])
  refine twL_nil.2 (hK _ _ ?_); clear hK K
  refine tw_block_seq fun K hK => ?_
  refine tw_loop (fun n m s => ∃ (i : Nat) (iz : Int) (x : BitVec 32) (x1 x2 x3 x6 x7 x8 x9 x10 x11 x12 x13 x14 x15 x16 x17 x18 x19 x20 x21 x22 : Option TV), m = [some (.int .u32 (n32 x)), x1, x2, x3, some (.int .u32 0), some (.int .i64 iz), x6, x7, x8, x9, x10, x11, x12, x13, x14, x15, x16, x17, x18, x19, x20, x21, x22] ∧ iz = i ∧ x = shiftBN i (c ^^^ b.toBitVec.setWidth 32) ∧ n = 8 - i ∧ i ≤ 8 ∧ s = σ) (n := 8) ?_ ?_
  · exact ⟨0, _, _, _, _, _, _, _, _, _, _, _, _, _, _, _, _, _, _, _, _, _, _, rfl, rfl, rfl, rfl, by omega, rfl⟩
  · rintro n m s ⟨i, _, x, x1, x2, x3, x6, x7, x8, x9, x10, x11, x12, x13, x14, x15, x16, x17, x18, x19, x20, x21, x22, rfl, rfl, hc, rfl, hi, rfl⟩
    first | with_reducible refine tw_reg_seq fun K hK => ?_ | (refine tw_seq_assoc ?_; with_reducible refine tw_reg_seq fun K hK => ?_)
    simp only [List.toList_toArray, List.append_eq, List.cons_append, List.nil_append]
    repeat (first | (first | with_reducible refine twL_go fun Cw cw => ?_ | with_reducible refine twL_yes rfl fun Cw cw => ?_); simp only [go_sem]; (first | refine cw _ _ ?_ | refine Or.inl (cw _ _ ?_)); clear cw Cw; simp only [tput, List.set_cons_zero, List.set_cons_succ] | (with_reducible refine twL_no _ rfl rfl ?_); simp only [tput, List.set_cons_zero, List.set_cons_succ])
    refine twL_nil.2 (hK _ _ ?_); clear hK K
    refine tw_cond_seq rfl (fun h => ?_) (fun h => ?_)
    · refine tw_skip_seq ?_
      simp only [decide_eq_true_eq] at h
      refine tw_block_seq fun K1 hK1 => ?_
      first | with_reducible refine tw_reg_seq fun K hK => ?_ | (refine tw_seq_assoc ?_; with_reducible refine tw_reg_seq fun K hK => ?_)
      simp only [List.toList_toArray, List.append_eq, List.cons_append, List.nil_append]
      repeat (first | (first | with_reducible refine twL_go fun Cw cw => ?_ | with_reducible refine twL_yes rfl fun Cw cw => ?_); simp only [go_sem, tmod2]; (first | refine cw _ _ ?_ | refine Or.inl (cw _ _ ?_)); clear cw Cw; simp only [tput, List.set_cons_zero, List.set_cons_succ] | (with_reducible refine twL_no _ rfl rfl ?_); simp only [tput, List.set_cons_zero, List.set_cons_succ])
      refine twL_nil.2 (hK _ _ ?_); clear hK K
      refine tw_cond rfl (fun h => ?_) (fun h => ?_)
      · refine tw_reg_end fun K hK => ?_
        simp only [List.toList_toArray, List.append_eq, List.cons_append, List.nil_append]
        repeat (first | (first | with_reducible refine twL_go fun Cw cw => ?_ | with_reducible refine twL_yes rfl fun Cw cw => ?_); simp only [go_sem, quo2, shiftB_true h]; (first | refine cw _ _ ?_ | refine Or.inl (cw _ _ ?_)); clear cw Cw; simp only [tput, List.set_cons_zero, List.set_cons_succ] | (with_reducible refine twL_no _ rfl rfl ?_); simp only [tput, List.set_cons_zero, List.set_cons_succ])
        refine twL_nil.2 (hK _ _ ?_); clear hK K
        refine hK1 _ _ ?_
        refine tw_reg_end fun K hK => ?_
        simp only [List.toList_toArray, List.append_eq, List.cons_append, List.nil_append]
        repeat (first | (first | with_reducible refine twL_go fun Cw cw => ?_ | with_reducible refine twL_yes rfl fun Cw cw => ?_); simp only [go_sem]; (first | refine cw _ _ ?_ | refine Or.inl (cw _ _ ?_)); clear cw Cw; simp only [tput, List.set_cons_zero, List.set_cons_succ] | (with_reducible refine twL_no _ rfl rfl ?_); simp only [tput, List.set_cons_zero, List.set_cons_succ])
        refine twL_nil.2 (hK _ _ ?_); clear hK K
        refine ⟨8 - (i + 1), by omega, i + 1, _, shiftB x, _, _, _, _, _, _, _, _, _, _, _, _, _, _, _, _, _, _, _, _, rfl, by rw [wrap64_of (by omega) (by omega)]; omega, ?_, rfl, by omega, rfl⟩
        rw [hc, shiftBN_succ]
      · refine tw_reg_end fun K hK => ?_
        simp only [List.toList_toArray, List.append_eq, List.cons_append, List.nil_append]
        repeat (first | (first | with_reducible refine twL_go fun Cw cw => ?_ | with_reducible refine twL_yes rfl fun Cw cw => ?_); simp only [go_sem, quo2, shiftB_false h]; (first | refine cw _ _ ?_ | refine Or.inl (cw _ _ ?_)); clear cw Cw; simp only [tput, List.set_cons_zero, List.set_cons_succ] | (with_reducible refine twL_no _ rfl rfl ?_); simp only [tput, List.set_cons_zero, List.set_cons_succ])
        refine twL_nil.2 (hK _ _ ?_); clear hK K
        refine hK1 _ _ ?_
        refine tw_reg_end fun K hK => ?_
        simp only [List.toList_toArray, List.append_eq, List.cons_append, List.nil_append]
        repeat (first | (first | with_reducible refine twL_go fun Cw cw => ?_ | with_reducible refine twL_yes rfl fun Cw cw => ?_); simp only [go_sem]; (first | refine cw _ _ ?_ | refine Or.inl (cw _ _ ?_)); clear cw Cw; simp only [tput, List.set_cons_zero, List.set_cons_succ] | (with_reducible refine twL_no _ rfl rfl ?_); simp only [tput, List.set_cons_zero, List.set_cons_succ])
        refine twL_nil.2 (hK _ _ ?_); clear hK K
        refine ⟨8 - (i + 1), by omega, i + 1, _, shiftB x, _, _, _, _, _, _, _, _, _, _, _, _, _, _, _, _, _, _, _, _, rfl, by rw [wrap64_of (by omega) (by omega)]; omega, ?_, rfl, by omega, rfl⟩
        rw [hc, shiftBN_succ]
    · refine tw_exit_seq ?_
      simp only [decide_eq_false_iff_not] at h
      obtain rfl : i = 8 := by omega
      refine hK _ _ ?_
      first | with_reducible refine tw_reg_seq fun K hK => ?_ | (refine tw_seq_assoc ?_; with_reducible refine tw_reg_seq fun K hK => ?_)
      simp only [List.toList_toArray, List.append_eq, List.cons_append, List.nil_append]
      repeat (first | (first | with_reducible refine twL_go fun Cw cw => ?_ | with_reducible refine twL_yes rfl fun Cw cw => ?_); simp only [go_sem]; (first | refine cw _ _ ?_ | refine Or.inl (cw _ _ ?_)); clear cw Cw; simp only [tput, List.set_cons_zero, List.set_cons_succ] | (with_reducible refine twL_no _ rfl rfl ?_); simp only [tput, List.set_cons_zero, List.set_cons_succ])
      refine twL_nil.2 (hK _ _ ?_); clear hK K
      simp only [tw, TX.inBlock, TX.then, tpost, tresults, Try.f190, List.toList_toArray, tresultL, tresult1, ev, List.getElem?_cons_zero, List.getElem?_cons_succ, Option.map_some, Option.bind_some]
      rw [hc]
      first | exact ⟨rfl, rfl⟩ | exact ⟨rfl, trivial⟩ | exact ⟨trivial, rfl⟩ | trivial

theorem refgo_walk (c : BitVec 32) (s : ByteArray) (σ : TS) (hs : s.size ≤ 9223372036854775806) :
    TCalls Try.prog 179 [.int .u32 (n32 c), .str s] σ fun r σ' => r = .int .u32 (n32 (foldB c s.data.toList)) ∧ σ' = σ := by
  refine tcalls_of [] Try.func179 (by kernel_rfl) rfl ?_
  show tw _ _ _ _ ([some _, some _] ++ List.replicate 16 none) _
  simp only [List.replicate, List.cons_append, List.nil_append]
  first | with_reducible refine tw_reg_seq fun K hK => ?_ | (refine tw_seq_assoc ?_; with_reducible refine tw_reg_seq fun K hK => ?_)
  simp only [List.toList_toArray, List.append_eq, List.cons_append, List.nil_append]
  repeat (first | (first | with_reducible refine twL_go fun Cw cw => ?_ | with_reducible refine twL_yes rfl fun Cw cw => ?_); simp only [go_sem]; (first | refine cw _ _ ?_ | refine Or.inl (cw _ _ ?_)); clear cw Cw; simp only [tput, List.set_cons_zero, List.set_cons_succ] | (with_reducible refine twL_no _ rfl rfl ?_); simp only [tput, List.set_cons_zero, List.set_cons_succ])
  refine twL_nil.2 (hK _ _ ?_); clear hK K
  first | with_reducible refine tw_reg_seq fun K hK => ?_ | (refine tw_seq_assoc ?_; with_reducible refine tw_reg_seq fun K hK => ?_)
  simp only [List.toList_toArray, List.append_eq, List.cons_append, List.nil_append]
  repeat (first | (first | with_reducible refine twL_go fun Cw cw => ?_ | with_reducible refine twL_yes rfl fun Cw cw => ?_); simp only [go_sem]; (first | refine cw _ _ ?_ | refine Or.inl (cw _ _ ?_)); clear cw Cw; simp only [tput, List.set_cons_zero, List.set_cons_succ] | (with_reducible refine twL_no _ rfl rfl ?_); simp only [tput, List.set_cons_zero, List.set_cons_succ])
  refine twL_nil.2 (hK _ _ ?_); clear hK K
  refine tw_block_seq fun K hK => ?_
  refine tw_loop (fun n m s' => ∃ (i : Nat) (iz : Int) (x : BitVec 32) (x2 x3 x6 x7 x8 x9 x10 x11 x12 x13 x14 x15 x16 x17 : Option TV), m = [some (.int .u32 (n32 x)), some (.str s), x2, x3, some (.int .u32 0), some (.int .i64 iz), x6, x7, x8, x9, x10, x11, x12, x13, x14, x15, x16, x17] ∧ iz = i ∧ x = foldB c (s.data.toList.take i) ∧ n = s.size - i ∧ i ≤ s.size ∧ s' = σ) (n := s.size) ?_ ?_
  · exact ⟨0, _, _, _, _, _, _, _, _, _, _, _, _, _, _, _, _, rfl, rfl, rfl, rfl, by omega, rfl⟩
  · rintro n m s' ⟨i, _, x, x2, x3, x6, x7, x8, x9, x10, x11, x12, x13, x14, x15, x16, x17, rfl, rfl, hc, rfl, hi, rfl⟩
    first | with_reducible refine tw_reg_seq fun K hK => ?_ | (refine tw_seq_assoc ?_; with_reducible refine tw_reg_seq fun K hK => ?_)
    simp only [List.toList_toArray, List.append_eq, List.cons_append, List.nil_append]
    repeat (first | (first | with_reducible refine twL_go fun Cw cw => ?_ | with_reducible refine twL_yes rfl fun Cw cw => ?_); simp only [go_sem]; (first | refine cw _ _ ?_ | refine Or.inl (cw _ _ ?_)); clear cw Cw; simp only [tput, List.set_cons_zero, List.set_cons_succ] | (with_reducible refine twL_no _ rfl rfl ?_); simp only [tput, List.set_cons_zero, List.set_cons_succ])
    refine twL_nil.2 (hK _ _ ?_); clear hK K
    refine tw_cond_seq rfl (fun h => ?_) (fun h => ?_)
    · refine tw_skip_seq ?_
      simp only [decide_eq_true_eq] at h
      have hlt : i < s.data.toList.length := by rw [data_length]; omega
      have hb : s[i]? = some (s.data.toList[i]) := by
        rw [getElem?_pos s i (by omega)]
        rfl
      refine tw_block_seq fun K1 hK1 => ?_
      refine tw_reg_end fun K hK => ?_
      simp only [List.toList_toArray, List.append_eq, List.cons_append, List.nil_append]
      repeat (first | (first | with_reducible refine twL_go fun Cw cw => ?_ | with_reducible refine twL_yes rfl fun Cw cw => ?_); simp only [go_sem, hb]; (first | refine cw _ _ ?_ | refine Or.inl (cw _ _ ?_)); clear cw Cw; simp only [tput, List.set_cons_zero, List.set_cons_succ] | (with_reducible refine twL_no _ rfl rfl ?_); simp only [tput, List.set_cons_zero, List.set_cons_succ])
      first | with_reducible refine twL_go fun Cw cw => ?_ | with_reducible refine twL_yes rfl fun Cw cw => ?_
      simp only [go_sem, hb]
      refine (take_walk x _ _).mono ?_
      rintro _ _ ⟨rfl, rfl⟩
      refine cw _ _ ?_; clear cw Cw; simp only [tput, List.set_cons_zero, List.set_cons_succ]
      repeat (first | (first | with_reducible refine twL_go fun Cw cw => ?_ | with_reducible refine twL_yes rfl fun Cw cw => ?_); simp only [go_sem]; (first | refine cw _ _ ?_ | refine Or.inl (cw _ _ ?_)); clear cw Cw; simp only [tput, List.set_cons_zero, List.set_cons_succ] | (with_reducible refine twL_no _ rfl rfl ?_); simp only [tput, List.set_cons_zero, List.set_cons_succ])
      refine twL_nil.2 (hK _ _ ?_); clear hK K
      refine hK1 _ _ ?_
      refine tw_reg_end fun K hK => ?_
      simp only [List.toList_toArray, List.append_eq, List.cons_append, List.nil_append]
      repeat (first | (first | with_reducible refine twL_go fun Cw cw => ?_ | with_reducible refine twL_yes rfl fun Cw cw => ?_); simp only [go_sem]; (first | refine cw _ _ ?_ | refine Or.inl (cw _ _ ?_)); clear cw Cw; simp only [tput, List.set_cons_zero, List.set_cons_succ] | (with_reducible refine twL_no _ rfl rfl ?_); simp only [tput, List.set_cons_zero, List.set_cons_succ])
      refine twL_nil.2 (hK _ _ ?_); clear hK K
      refine ⟨s.size - (i + 1), by omega, i + 1, _, _, _, _, _, _, _, _, _, _, _, _, _, _, _, _, rfl, by rw [wrap64_of (by omega) (by omega)]; omega, ?_, rfl, by omega, rfl⟩
      rw [List.take_succ_eq_append_getElem hlt, foldB_append, ← hc]
      rfl
    · refine tw_exit_seq ?_
      simp only [decide_eq_false_iff_not] at h
      obtain rfl : i = s.size := by omega
      refine hK _ _ ?_
      first | with_reducible refine tw_reg_seq fun K hK => ?_ | (refine tw_seq_assoc ?_; with_reducible refine tw_reg_seq fun K hK => ?_)
      simp only [List.toList_toArray, List.append_eq, List.cons_append, List.nil_append]
      repeat (first | (first | with_reducible refine twL_go fun Cw cw => ?_ | with_reducible refine twL_yes rfl fun Cw cw => ?_); simp only [go_sem]; (first | refine cw _ _ ?_ | refine Or.inl (cw _ _ ?_)); clear cw Cw; simp only [tput, List.set_cons_zero, List.set_cons_succ] | (with_reducible refine twL_no _ rfl rfl ?_); simp only [tput, List.set_cons_zero, List.set_cons_succ])
      refine twL_nil.2 (hK _ _ ?_); clear hK K
      simp only [tw, TX.inBlock, TX.then, tpost, tresults, Try.f179, List.toList_toArray, tresultL, tresult1, ev, List.getElem?_cons_zero, List.getElem?_cons_succ, Option.map_some, Option.bind_some]
      rw [hc, ← data_length, List.take_length]
      first | exact ⟨rfl, rfl⟩ | exact ⟨rfl, trivial⟩ | exact ⟨trivial, rfl⟩ | trivial

theorem refsum_walk (s : ByteArray) (σ : TS) (hs : s.size ≤ 9223372036854775806) :
    TCalls Try.prog 151 [.str s] σ fun r σ' => r = .int .u32 (n32 (sumB s.data.toList)) ∧ σ' = σ := by
  refine tcalls_of [] Try.func151 (by kernel_rfl) rfl ?_
  show tw _ _ _ _ ([some _] ++ List.replicate 5 none) _
  simp only [List.replicate, List.cons_append, List.nil_append]
  first | with_reducible refine tw_reg_seq fun K hK => ?_ | (refine tw_seq_assoc ?_; with_reducible refine tw_reg_seq fun K hK => ?_)
  simp only [List.toList_toArray, List.append_eq, List.cons_append, List.nil_append]
  repeat (first | (first | with_reducible refine twL_go fun Cw cw => ?_ | with_reducible refine twL_yes rfl fun Cw cw => ?_); simp only [go_sem]; (first | refine cw _ _ ?_ | refine Or.inl (cw _ _ ?_)); clear cw Cw; simp only [tput, List.set_cons_zero, List.set_cons_succ] | (with_reducible refine twL_no _ rfl rfl ?_); simp only [tput, List.set_cons_zero, List.set_cons_succ])
  refine twL_nil.2 (hK _ _ ?_); clear hK K
  first | with_reducible refine tw_reg_seq fun K hK => ?_ | (refine tw_seq_assoc ?_; with_reducible refine tw_reg_seq fun K hK => ?_)
  simp only [List.toList_toArray, List.append_eq, List.cons_append, List.nil_append]
  repeat (first | (first | with_reducible refine twL_go fun Cw cw => ?_ | with_reducible refine twL_yes rfl fun Cw cw => ?_); simp only [go_sem]; (first | refine cw _ _ ?_ | refine Or.inl (cw _ _ ?_)); clear cw Cw; simp only [tput, List.set_cons_zero, List.set_cons_succ] | (with_reducible refine twL_no _ rfl rfl ?_); simp only [tput, List.set_cons_zero, List.set_cons_succ])
  first | with_reducible refine twL_go fun Cw cw => ?_ | with_reducible refine twL_yes rfl fun Cw cw => ?_
  simp only [go_sem]
  refine (refgo_walk 0xFFFFFFFF#32 s _ hs).mono ?_
  rintro _ _ ⟨rfl, rfl⟩
  refine cw _ _ ?_; clear cw Cw; simp only [tput, List.set_cons_zero, List.set_cons_succ]
  repeat (first | (first | with_reducible refine twL_go fun Cw cw => ?_ | with_reducible refine twL_yes rfl fun Cw cw => ?_); simp only [go_sem]; (first | refine cw _ _ ?_ | refine Or.inl (cw _ _ ?_)); clear cw Cw; simp only [tput, List.set_cons_zero, List.set_cons_succ] | (with_reducible refine twL_no _ rfl rfl ?_); simp only [tput, List.set_cons_zero, List.set_cons_succ])
  refine twL_nil.2 (hK _ _ ?_); clear hK K
  simp only [tw, TX.inBlock, TX.then, tpost, tresults, Try.f151, List.toList_toArray, tresultL, tresult1, ev, List.getElem?_cons_zero, List.getElem?_cons_succ, Option.map_some, Option.bind_some]
  refine ⟨?_, trivial⟩
  show TV.int .u32 (ixor .u32 (n32 0xFFFFFFFF#32) _) = _
  rw [ixor_n32]
  rfl

theorem sumByte_lit (x : BitVec 32) (i : Nat) (k : Int) (hk : k = 8 * (i : Int)) (h : i < 4) : IntKind.u8.wrap (ishr .u32 (n32 x) k) = ((sumByte x i).toNat : Int) := by
  rw [← sumByte_int x i h, wrap64_of (by omega) (by omega), wrapU64_of (by omega) (by omega), hk]

theorem sumByte_zero (x : BitVec 32) : IntKind.u8.wrap (n32 x) = ((sumByte x 0).toNat : Int) := by
  rw [wrapU8_n32]
  unfold sumByte
  rw [Nat.mul_zero, BitVec.ushiftRight_zero]
  rfl

theorem seal_add (s : ByteArray) (hs : s.size ≤ 100000) : ofSem (Op.stringOp .add s ⟨#[sumByte (sumB s.data.toList) 0, sumByte (sumB s.data.toList) 1, sumByte (sumB s.data.toList) 2, sumByte (sumB s.data.toList) 3]⟩) = some (.str (sealB s)) := by
  rw [str_add, if_neg]
  · have he : s ++ ⟨#[sumByte (sumB s.data.toList) 0, sumByte (sumB s.data.toList) 1, sumByte (sumB s.data.toList) 2, sumByte (sumB s.data.toList) 3]⟩ = sealB s := by
      apply ByteArray.ext
      rw [ByteArray.data_append]
      apply Array.ext'
      simp only [sealB, sealL, List.range, List.range.loop, List.map_cons, List.map_nil, Array.toList_append]
    rw [he]
  · show ¬ (((s.size + 4 : Nat) : Int) > 9223372036854775807)
    omega

theorem refseal_walk (s : ByteArray) (σ : TS) (hs : s.size ≤ 100000) :
    TCalls Try.prog 105 [.str s] σ fun r σ' => r = .str (sealB s) ∧ σ' = σ := by
  refine tcalls_of [] Try.func105 (by kernel_rfl) rfl ?_
  show tw _ _ _ _ ([some _] ++ List.replicate 20 none) _
  simp only [List.replicate, List.cons_append, List.nil_append]
  first | with_reducible refine tw_reg_seq fun K hK => ?_ | (refine tw_seq_assoc ?_; with_reducible refine tw_reg_seq fun K hK => ?_)
  simp only [List.toList_toArray, List.append_eq, List.cons_append, List.nil_append]
  repeat (first | (first | with_reducible refine twL_go fun Cw cw => ?_ | with_reducible refine twL_yes rfl fun Cw cw => ?_); simp only [go_sem]; (first | refine cw _ _ ?_ | refine Or.inl (cw _ _ ?_)); clear cw Cw; simp only [tput, List.set_cons_zero, List.set_cons_succ] | (with_reducible refine twL_no _ rfl rfl ?_); simp only [tput, List.set_cons_zero, List.set_cons_succ])
  refine twL_nil.2 (hK _ _ ?_); clear hK K
  first | with_reducible refine tw_reg_seq fun K hK => ?_ | (refine tw_seq_assoc ?_; with_reducible refine tw_reg_seq fun K hK => ?_)
  simp only [List.toList_toArray, List.append_eq, List.cons_append, List.nil_append]
  repeat (first | (first | with_reducible refine twL_go fun Cw cw => ?_ | with_reducible refine twL_yes rfl fun Cw cw => ?_); simp only [go_sem]; (first | refine cw _ _ ?_ | refine Or.inl (cw _ _ ?_)); clear cw Cw; simp only [tput, List.set_cons_zero, List.set_cons_succ] | (with_reducible refine twL_no _ rfl rfl ?_); simp only [tput, List.set_cons_zero, List.set_cons_succ])
  first | with_reducible refine twL_go fun Cw cw => ?_ | with_reducible refine twL_yes rfl fun Cw cw => ?_
  simp only [go_sem]
  refine (refsum_walk s _ (by omega)).mono ?_
  rintro _ _ ⟨rfl, rfl⟩
  refine cw _ _ ?_; clear cw Cw; simp only [tput, List.set_cons_zero, List.set_cons_succ]
  repeat (first | (first | with_reducible refine twL_go fun Cw cw => ?_ | with_reducible refine twL_yes rfl fun Cw cw => ?_); simp only [go_sem]; (first | refine cw _ _ ?_ | refine Or.inl (cw _ _ ?_)); clear cw Cw; simp only [tput, List.set_cons_zero, List.set_cons_succ] | (with_reducible refine twL_no _ rfl rfl ?_); simp only [tput, List.set_cons_zero, List.set_cons_succ])
  refine twL_nil.2 (hK _ _ ?_); clear hK K
  have h0 : IntKind.u8.wrap (n32 (sumB s.data.toList)) = ((sumByte (sumB s.data.toList) 0).toNat : Int) := sumByte_zero _
  have h1 : IntKind.u8.wrap (ishr .u32 (n32 (sumB s.data.toList)) 8) = ((sumByte (sumB s.data.toList) 1).toNat : Int) := sumByte_lit _ 1 _ rfl (by omega)
  have h2 : IntKind.u8.wrap (ishr .u32 (n32 (sumB s.data.toList)) 16) = ((sumByte (sumB s.data.toList) 2).toNat : Int) := sumByte_lit _ 2 _ rfl (by omega)
  have h3 : IntKind.u8.wrap (ishr .u32 (n32 (sumB s.data.toList)) 24) = ((sumByte (sumB s.data.toList) 3).toNat : Int) := sumByte_lit _ 3 _ rfl (by omega)
  have ht := tbytes_map ((List.range 4).map (sumByte (sumB s.data.toList)))
  simp only [List.range, List.range.loop, List.map_cons, List.map_nil] at ht
  have hadd := seal_add s hs
  first | with_reducible refine tw_reg_seq fun K hK => ?_ | (refine tw_seq_assoc ?_; with_reducible refine tw_reg_seq fun K hK => ?_)
  simp only [List.toList_toArray, List.append_eq, List.cons_append, List.nil_append]
  repeat (first | (first | with_reducible refine twL_go fun Cw cw => ?_ | with_reducible refine twL_yes rfl fun Cw cw => ?_); simp only [go_sem, h0, h1, h2, h3, splice, ht, hadd]; (first | refine cw _ _ ?_ | refine Or.inl (cw _ _ ?_)); clear cw Cw; simp only [tput, List.set_cons_zero, List.set_cons_succ] | (with_reducible refine twL_no _ rfl rfl ?_); simp only [tput, List.set_cons_zero, List.set_cons_succ])
  refine twL_nil.2 (hK _ _ ?_); clear hK K
  simp only [tw, TX.inBlock, TX.then, tpost, tresults, Try.f105, List.toList_toArray, tresultL, tresult1, ev, List.getElem?_cons_zero, List.getElem?_cons_succ, Option.map_some, Option.bind_some]
  first | exact ⟨rfl, rfl⟩ | exact ⟨rfl, trivial⟩ | exact ⟨trivial, rfl⟩ | trivial

theorem refopen_walk (s : ByteArray) (σ : TS) (hs : s.size ≤ 100000) :
    TCalls Try.prog 119 [.str s] σ fun r σ' => r = .tup [.str (openB s).1, .int .i64 (openB s).2] ∧ σ' = σ := by
  refine tcalls_of [] Try.func119 (by kernel_rfl) rfl ?_
  show tw _ _ _ _ ([some _] ++ List.replicate 17 none) _
  simp only [List.replicate, List.cons_append, List.nil_append]
  by_cases h4 : s.size < 4
  · have ho : openB s = (⟨#[]⟩, 10) := by unfold openB; rw [if_pos h4]
    have hd : decide ((s.size : Int) < 4) = true := by rw [decide_eq_true_eq]; omega
    first | with_reducible refine tw_reg_seq fun K hK => ?_ | (refine tw_seq_assoc ?_; with_reducible refine tw_reg_seq fun K hK => ?_)
    simp only [List.toList_toArray, List.append_eq, List.cons_append, List.nil_append]
    repeat (first | (first | with_reducible refine twL_go fun Cw cw => ?_ | with_reducible refine twL_yes rfl fun Cw cw => ?_); simp only [go_sem]; (first | refine cw _ _ ?_ | refine Or.inl (cw _ _ ?_)); clear cw Cw; simp only [tput, List.set_cons_zero, List.set_cons_succ] | (with_reducible refine twL_no _ rfl rfl ?_); simp only [tput, List.set_cons_zero, List.set_cons_succ])
    refine twL_nil.2 (hK _ _ ?_); clear hK K
    first | with_reducible refine tw_reg_seq fun K hK => ?_ | (refine tw_seq_assoc ?_; with_reducible refine tw_reg_seq fun K hK => ?_)
    simp only [List.toList_toArray, List.append_eq, List.cons_append, List.nil_append]
    repeat (first | (first | with_reducible refine twL_go fun Cw cw => ?_ | with_reducible refine twL_yes rfl fun Cw cw => ?_); simp only [go_sem, hd]; (first | refine cw _ _ ?_ | refine Or.inl (cw _ _ ?_)); clear cw Cw; simp only [tput, List.set_cons_zero, List.set_cons_succ] | (with_reducible refine twL_no _ rfl rfl ?_); simp only [tput, List.set_cons_zero, List.set_cons_succ])
    refine twL_nil.2 (hK _ _ ?_); clear hK K
    refine tw_cond_seq rfl (fun _ => ?_) (fun h => by cases h)
    first | with_reducible refine tw_reg_seq fun K hK => ?_ | (refine tw_seq_assoc ?_; with_reducible refine tw_reg_seq fun K hK => ?_)
    simp only [List.toList_toArray, List.append_eq, List.cons_append, List.nil_append]
    repeat (first | (first | with_reducible refine twL_go fun Cw cw => ?_ | with_reducible refine twL_yes rfl fun Cw cw => ?_); simp only [go_sem]; (first | refine cw _ _ ?_ | refine Or.inl (cw _ _ ?_)); clear cw Cw; simp only [tput, List.set_cons_zero, List.set_cons_succ] | (with_reducible refine twL_no _ rfl rfl ?_); simp only [tput, List.set_cons_zero, List.set_cons_succ])
    refine twL_nil.2 (hK _ _ ?_); clear hK K
    refine tw_ret_seq ?_
    simp only [tw, TX.inBlock, TX.then, tpost, tresults, Try.f119, List.toList_toArray, tresultL, tresult1, ev, List.getElem?_cons_zero, List.getElem?_cons_succ, Option.map_some, Option.bind_some]
    rw [ho]
    first | exact ⟨rfl, rfl⟩ | exact ⟨rfl, trivial⟩ | exact ⟨trivial, rfl⟩ | trivial
  · have hw : IntKind.i64.wrap ((s.size : Int) - 4) = ((s.size - 4 : Nat) : Int) := by rw [wrap64_of (by omega) (by omega)]; omega
    have hd : decide ((s.size : Int) < 4) = false := by rw [decide_eq_false_iff_not]; omega
    have hl : s.size - 4 ≤ s.size := by omega
    first | with_reducible refine tw_reg_seq fun K hK => ?_ | (refine tw_seq_assoc ?_; with_reducible refine tw_reg_seq fun K hK => ?_)
    simp only [List.toList_toArray, List.append_eq, List.cons_append, List.nil_append]
    repeat (first | (first | with_reducible refine twL_go fun Cw cw => ?_ | with_reducible refine twL_yes rfl fun Cw cw => ?_); simp only [go_sem]; (first | refine cw _ _ ?_ | refine Or.inl (cw _ _ ?_)); clear cw Cw; simp only [tput, List.set_cons_zero, List.set_cons_succ] | (with_reducible refine twL_no _ rfl rfl ?_); simp only [tput, List.set_cons_zero, List.set_cons_succ])
    refine twL_nil.2 (hK _ _ ?_); clear hK K
    first | with_reducible refine tw_reg_seq fun K hK => ?_ | (refine tw_seq_assoc ?_; with_reducible refine tw_reg_seq fun K hK => ?_)
    simp only [List.toList_toArray, List.append_eq, List.cons_append, List.nil_append]
    repeat (first | (first | with_reducible refine twL_go fun Cw cw => ?_ | with_reducible refine twL_yes rfl fun Cw cw => ?_); simp only [go_sem, hd]; (first | refine cw _ _ ?_ | refine Or.inl (cw _ _ ?_)); clear cw Cw; simp only [tput, List.set_cons_zero, List.set_cons_succ] | (with_reducible refine twL_no _ rfl rfl ?_); simp only [tput, List.set_cons_zero, List.set_cons_succ])
    refine twL_nil.2 (hK _ _ ?_); clear hK K
    refine tw_cond_seq rfl (fun h => by cases h) (fun _ => ?_)
    refine tw_skip_seq ?_
    first | with_reducible refine tw_reg_seq fun K hK => ?_ | (refine tw_seq_assoc ?_; with_reducible refine tw_reg_seq fun K hK => ?_)
    simp only [List.toList_toArray, List.append_eq, List.cons_append, List.nil_append]
    repeat (first | (first | with_reducible refine twL_go fun Cw cw => ?_ | with_reducible refine twL_yes rfl fun Cw cw => ?_); simp only [go_sem, hl, hw]; (first | refine cw _ _ ?_ | refine Or.inl (cw _ _ ?_)); clear cw Cw; simp only [tput, List.set_cons_zero, List.set_cons_succ] | (with_reducible refine twL_no _ rfl rfl ?_); simp only [tput, List.set_cons_zero, List.set_cons_succ])
    refine twL_nil.2 (hK _ _ ?_); clear hK K
    first | with_reducible refine tw_reg_seq fun K hK => ?_ | (refine tw_seq_assoc ?_; with_reducible refine tw_reg_seq fun K hK => ?_)
    simp only [List.toList_toArray, List.append_eq, List.cons_append, List.nil_append]
    repeat (first | (first | with_reducible refine twL_go fun Cw cw => ?_ | with_reducible refine twL_yes rfl fun Cw cw => ?_); simp only [go_sem, hl]; (first | refine cw _ _ ?_ | refine Or.inl (cw _ _ ?_)); clear cw Cw; simp only [tput, List.set_cons_zero, List.set_cons_succ] | (with_reducible refine twL_no _ rfl rfl ?_); simp only [tput, List.set_cons_zero, List.set_cons_succ])
    first | with_reducible refine twL_go fun Cw cw => ?_ | with_reducible refine twL_yes rfl fun Cw cw => ?_
    simp only [go_sem, hl]
    refine (refseal_walk _ _ (by rw [size_extract _ _ hl]; omega)).mono ?_
    rintro _ _ ⟨rfl, rfl⟩
    refine cw _ _ ?_; clear cw Cw; simp only [tput, List.set_cons_zero, List.set_cons_succ]
    repeat (first | (first | with_reducible refine twL_go fun Cw cw => ?_ | with_reducible refine twL_yes rfl fun Cw cw => ?_); simp only [go_sem]; (first | refine cw _ _ ?_ | refine Or.inl (cw _ _ ?_)); clear cw Cw; simp only [tput, List.set_cons_zero, List.set_cons_succ] | (with_reducible refine twL_no _ rfl rfl ?_); simp only [tput, List.set_cons_zero, List.set_cons_succ])
    refine twL_nil.2 (hK _ _ ?_); clear hK K
    refine tw_cond_seq rfl (fun h => ?_) (fun h => ?_)
    · have ho : openB s = (⟨#[]⟩, 12) := by unfold openB; rw [if_neg h4, if_neg (by simpa using h)]
      first | with_reducible refine tw_reg_seq fun K hK => ?_ | (refine tw_seq_assoc ?_; with_reducible refine tw_reg_seq fun K hK => ?_)
      simp only [List.toList_toArray, List.append_eq, List.cons_append, List.nil_append]
      repeat (first | (first | with_reducible refine twL_go fun Cw cw => ?_ | with_reducible refine twL_yes rfl fun Cw cw => ?_); simp only [go_sem]; (first | refine cw _ _ ?_ | refine Or.inl (cw _ _ ?_)); clear cw Cw; simp only [tput, List.set_cons_zero, List.set_cons_succ] | (with_reducible refine twL_no _ rfl rfl ?_); simp only [tput, List.set_cons_zero, List.set_cons_succ])
      refine twL_nil.2 (hK _ _ ?_); clear hK K
      refine tw_ret_seq ?_
      simp only [tw, TX.inBlock, TX.then, tpost, tresults, Try.f119, List.toList_toArray, tresultL, tresult1, ev, List.getElem?_cons_zero, List.getElem?_cons_succ, Option.map_some, Option.bind_some]
      rw [ho]
      first | exact ⟨rfl, rfl⟩ | exact ⟨rfl, trivial⟩ | exact ⟨trivial, rfl⟩ | trivial
    · have ho : openB s = (s.extract 0 (s.size - 4), 0) := by unfold openB; rw [if_neg h4, if_pos (by simpa using h)]
      refine tw_skip_seq ?_
      first | with_reducible refine tw_reg_seq fun K hK => ?_ | (refine tw_seq_assoc ?_; with_reducible refine tw_reg_seq fun K hK => ?_)
      simp only [List.toList_toArray, List.append_eq, List.cons_append, List.nil_append]
      repeat (first | (first | with_reducible refine twL_go fun Cw cw => ?_ | with_reducible refine twL_yes rfl fun Cw cw => ?_); simp only [go_sem, hl]; (first | refine cw _ _ ?_ | refine Or.inl (cw _ _ ?_)); clear cw Cw; simp only [tput, List.set_cons_zero, List.set_cons_succ] | (with_reducible refine twL_no _ rfl rfl ?_); simp only [tput, List.set_cons_zero, List.set_cons_succ])
      refine twL_nil.2 (hK _ _ ?_); clear hK K
      simp only [tw, TX.inBlock, TX.then, tpost, tresults, Try.f119, List.toList_toArray, tresultL, tresult1, ev, List.getElem?_cons_zero, List.getElem?_cons_succ, Option.map_some, Option.bind_some]
      rw [ho]
      first | exact ⟨rfl, rfl⟩ | exact ⟨rfl, trivial⟩ | exact ⟨trivial, rfl⟩ | trivial

end Go.Proofs.Ytgkcackpffimmaa
