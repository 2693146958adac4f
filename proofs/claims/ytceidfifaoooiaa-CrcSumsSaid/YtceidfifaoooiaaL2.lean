/- CrcSums: what the check sum of texts is, one behind the other. -/
import Derived.Test.YtceidfifaoooiaaRows
import Derived.WalkKit
import Derived.ProofKit
import Derived.OpenShut
import Derived.ShutString
import Derived.ChangeOld
import Derived.Below
import Derived.Test.YtceidfifaoooiaaC3
set_option linter.unusedVariables false
set_option linter.unusedSimpArgs false
set_option maxRecDepth 10000
namespace Go.Proofs.Ytceidfifaoooiaa.crcSumsDone
open Go.TM

theorem sumnil_walk (σ : TS) : TCalls Try.prog 14 [.nils] σ fun r σ' => r = .int .u32 (n32 (sumB [])) ∧ Grew σ σ' := by
  refine tcalls_of [] Try.func14 (by kernel_rfl) rfl ?_
  show tw _ _ _ _ ([some _] ++ List.replicate 20 none) _
  simp only [List.replicate, List.cons_append, List.nil_append]
  first | with_reducible refine tw_reg_seq fun K hK => ?_ | (refine tw_seq_assoc ?_; with_reducible refine tw_reg_seq fun K hK => ?_)
  simp only [List.toList_toArray]
  repeat (with_reducible refine twL_step fun Cw cw => ?_; simp only [go_sem]; refine cw _ _ ?_; clear cw Cw; simp only [tput, List.set_cons_zero, List.set_cons_succ])
  refine twL_nil.2 (hK _ _ ?_); clear hK K
  first | with_reducible refine tw_reg_seq fun K hK => ?_ | (refine tw_seq_assoc ?_; with_reducible refine tw_reg_seq fun K hK => ?_)
  simp only [List.toList_toArray]
  repeat (with_reducible refine twL_step fun Cw cw => ?_; simp only [go_sem]; refine cw _ _ ?_; clear cw Cw; simp only [tput, List.set_cons_zero, List.set_cons_succ])
  with_reducible refine twL_step fun Cw cw => ?_
  simp only [go_sem]
  refine (make_walk _).mono ?_
  rintro _ _ ⟨rfl, rfl⟩
  refine cw _ _ ?_; clear cw Cw; simp only [tput, List.set_cons_zero, List.set_cons_succ]
  repeat (with_reducible refine twL_step fun Cw cw => ?_; simp only [go_sem]; refine cw _ _ ?_; clear cw Cw; simp only [tput, List.set_cons_zero, List.set_cons_succ])
  refine twL_nil.2 (hK _ _ ?_); clear hK K
  refine tw_seq_assoc ?_
  first | with_reducible refine tw_reg_seq fun K hK => ?_ | (refine tw_seq_assoc ?_; with_reducible refine tw_reg_seq fun K hK => ?_)
  simp only [List.toList_toArray]
  repeat (with_reducible refine twL_step fun Cw cw => ?_; simp only [go_sem]; refine cw _ _ ?_; clear cw Cw; simp only [tput, List.set_cons_zero, List.set_cons_succ])
  refine twL_nil.2 (hK _ _ ?_); clear hK K
  refine tw_block_seq fun K hK => ?_
  refine tw_loop (fun n m s => m = [some (.nils), none, some (.int .u32 0), some (.ptr σ.length 0), some (.int .u32 4294967295), none, none, some (.ptr σ.length 0), some (.nils), some (.int .i64 0), some (.int .i64 0), none, none, none, none, none, none, none, none, none, none] ∧ s = σ ++ [.cells (tabCells 256)]) (n := 0) ⟨rfl, rfl⟩ ?_
  rintro n m s ⟨rfl, rfl⟩
  first | with_reducible refine tw_reg_seq fun K hK => ?_ | (refine tw_seq_assoc ?_; with_reducible refine tw_reg_seq fun K hK => ?_)
  simp only [List.toList_toArray]
  repeat (with_reducible refine twL_step fun Cw cw => ?_; simp only [go_sem]; refine cw _ _ ?_; clear cw Cw; simp only [tput, List.set_cons_zero, List.set_cons_succ])
  refine twL_nil.2 (hK _ _ ?_); clear hK K
  refine tw_cond_seq rfl (fun h => by cases h) (fun h => ?_)
  refine tw_exit_seq ?_
  refine hK _ _ ?_
  first | with_reducible refine tw_reg_seq fun K hK => ?_ | (refine tw_seq_assoc ?_; with_reducible refine tw_reg_seq fun K hK => ?_)
  simp only [List.toList_toArray]
  repeat (with_reducible refine twL_step fun Cw cw => ?_; simp only [go_sem]; refine cw _ _ ?_; clear cw Cw; simp only [tput, List.set_cons_zero, List.set_cons_succ])
  refine twL_nil.2 (hK _ _ ?_); clear hK K
  simp only [tw, TX.inBlock, TX.then, tpost, tresults, Try.f14, List.toList_toArray, tresultL, tresult1, ev, List.getElem?_cons_zero, List.getElem?_cons_succ, Option.map_some, Option.bind_some]
  refine ⟨?_, _, rfl⟩
  show TV.int .u32 (ixor .u32 (n32 0xFFFFFFFF#32) (n32 0xFFFFFFFF#32)) = _
  rw [ixor_n32]
  rfl

theorem calls (tvs : List TV) (h : TyAll (mkTab Try.prog) 3 Try.f4.params.toList tvs) : TCalls Try.prog 4 tvs [] fun tv _ => tv = .bool true := by
  rw [show Try.f4.params.toList = [29] by kernel_rfl] at h
  obtain ⟨a, _, rfl, ha, h⟩ := TyAll_cons h
  obtain rfl := TyAll_nil h
  rcases TyV_strs tab29 rfl tab9 rfl rfl ha with rfl | ⟨ls, rfl, hn, hs⟩
  · refine tcalls_of [] Try.func4 (by kernel_rfl) rfl ?_
    show tw _ _ _ _ ([some _] ++ List.replicate 35 none) _
    simp only [List.replicate, List.cons_append, List.nil_append]
    first | with_reducible refine tw_reg_seq fun K hK => ?_ | (refine tw_seq_assoc ?_; with_reducible refine tw_reg_seq fun K hK => ?_)
    simp only [List.toList_toArray]
    repeat (with_reducible refine twL_step fun Cw cw => ?_; simp only [go_sem]; refine cw _ _ ?_; clear cw Cw; simp only [tput, List.set_cons_zero, List.set_cons_succ])
    refine twL_nil.2 (hK _ _ ?_); clear hK K
    first | with_reducible refine tw_reg_seq fun K hK => ?_ | (refine tw_seq_assoc ?_; with_reducible refine tw_reg_seq fun K hK => ?_)
    simp only [List.toList_toArray]
    repeat (with_reducible refine twL_step fun Cw cw => ?_; simp only [go_sem]; refine cw _ _ ?_; clear cw Cw; simp only [tput, List.set_cons_zero, List.set_cons_succ])
    refine twL_nil.2 (hK _ _ ?_); clear hK K
    refine tw_cond_seq rfl (fun h => by cases h) (fun h => ?_)
    refine tw_skip_seq ?_
    first | with_reducible refine tw_reg_seq fun K hK => ?_ | (refine tw_seq_assoc ?_; with_reducible refine tw_reg_seq fun K hK => ?_)
    simp only [List.toList_toArray]
    repeat (with_reducible refine twL_step fun Cw cw => ?_; simp only [go_sem]; refine cw _ _ ?_; clear cw Cw; simp only [tput, List.set_cons_zero, List.set_cons_succ])
    refine twL_nil.2 (hK _ _ ?_); clear hK K
    first | with_reducible refine tw_reg_seq fun K hK => ?_ | (refine tw_seq_assoc ?_; with_reducible refine tw_reg_seq fun K hK => ?_)
    simp only [List.toList_toArray]
    repeat (with_reducible refine twL_step fun Cw cw => ?_; simp only [go_sem]; refine cw _ _ ?_; clear cw Cw; simp only [tput, List.set_cons_zero, List.set_cons_succ])
    refine twL_nil.2 (hK _ _ ?_); clear hK K
    refine tw_block_seq fun K hK => ?_
    refine tw_loop (fun n m s => ∃ (x1 x5 x6 x7 x8 x9 x10 x11 x12 x13 x14 x15 x16 x17 x18 x19 x20 x21 x22 x23 x24 x25 x26 x27 x28 x29 x30 x31 x32 x33 x34 x35 : Option TV), m = [some (.nils), x1, some (.bool false), some (.str ⟨#[]⟩), some (.int .i64 0), x5, x6, x7, x8, x9, x10, x11, x12, x13, x14, x15, x16, x17, x18, x19, x20, x21, x22, x23, x24, x25, x26, x27, x28, x29, x30, x31, x32, x33, x34, x35] ∧ s = []) (n := 0) ?_ ?_
    · exact ⟨_, _, _, _, _, _, _, _, _, _, _, _, _, _, _, _, _, _, _, _, _, _, _, _, _, _, _, _, _, _, _, _, rfl, rfl⟩
    rintro n m s ⟨x1, x5, x6, x7, x8, x9, x10, x11, x12, x13, x14, x15, x16, x17, x18, x19, x20, x21, x22, x23, x24, x25, x26, x27, x28, x29, x30, x31, x32, x33, x34, x35, rfl, rfl⟩
    first | with_reducible refine tw_reg_seq fun K hK => ?_ | (refine tw_seq_assoc ?_; with_reducible refine tw_reg_seq fun K hK => ?_)
    simp only [List.toList_toArray]
    repeat (with_reducible refine twL_step fun Cw cw => ?_; simp only [go_sem]; refine cw _ _ ?_; clear cw Cw; simp only [tput, List.set_cons_zero, List.set_cons_succ])
    refine twL_nil.2 (hK _ _ ?_); clear hK K
    refine tw_cond_seq rfl (fun h => by cases h) (fun h => ?_)
    refine tw_exit_seq ?_
    refine hK _ _ ?_; clear hK K
    first | with_reducible refine tw_reg_seq fun K hK => ?_ | (refine tw_seq_assoc ?_; with_reducible refine tw_reg_seq fun K hK => ?_)
    simp only [List.toList_toArray]
    repeat (with_reducible refine twL_step fun Cw cw => ?_; simp only [go_sem]; refine cw _ _ ?_; clear cw Cw; simp only [tput, List.set_cons_zero, List.set_cons_succ])
    with_reducible refine twL_step fun Cw cw => ?_
    simp only [go_sem]
    refine (sumnil_walk _).mono ?_
    rintro _ _ ⟨rfl, hg⟩
    refine cw _ _ ?_; clear cw Cw; simp only [tput, List.set_cons_zero, List.set_cons_succ]
    repeat (with_reducible refine twL_step fun Cw cw => ?_; simp only [go_sem]; refine cw _ _ ?_; clear cw Cw; simp only [tput, List.set_cons_zero, List.set_cons_succ])
    with_reducible refine twL_step fun Cw cw => ?_
    simp only [go_sem]
    refine (refsum_walk ⟨#[]⟩ _ (by decide)).mono ?_
    rintro _ _ ⟨rfl, rfl⟩
    refine cw _ _ ?_; clear cw Cw; simp only [tput, List.set_cons_zero, List.set_cons_succ]
    repeat (with_reducible refine twL_step fun Cw cw => ?_; simp only [go_sem]; refine cw _ _ ?_; clear cw Cw; simp only [tput, List.set_cons_zero, List.set_cons_succ])
    with_reducible refine twL_step fun Cw cw => ?_
    simp only [go_sem]
    refine (awake_walk _).mono ?_
    rintro _ _ ⟨rfl, hg⟩
    refine cw _ _ ?_; clear cw Cw; simp only [tput, List.set_cons_zero, List.set_cons_succ]
    repeat (with_reducible refine twL_step fun Cw cw => ?_; simp only [go_sem]; refine cw _ _ ?_; clear cw Cw; simp only [tput, List.set_cons_zero, List.set_cons_succ])
    refine twL_nil.2 (hK _ _ ?_); clear hK K
    simp only [tw, TX.inBlock, TX.then, tpost, tresults, Try.f4, List.toList_toArray, tresultL, tresult1, ev, List.getElem?_cons_zero, List.getElem?_cons_succ, Option.map_some, Option.bind_some]
  · refine tcalls_of [] Try.func4 (by kernel_rfl) rfl ?_
    show tw _ _ _ _ ([some _] ++ List.replicate 35 none) _
    simp only [List.replicate, List.cons_append, List.nil_append]
    first | with_reducible refine tw_reg_seq fun K hK => ?_ | (refine tw_seq_assoc ?_; with_reducible refine tw_reg_seq fun K hK => ?_)
    simp only [List.toList_toArray]
    repeat (with_reducible refine twL_step fun Cw cw => ?_; simp only [go_sem]; refine cw _ _ ?_; clear cw Cw; simp only [tput, List.set_cons_zero, List.set_cons_succ])
    refine twL_nil.2 (hK _ _ ?_); clear hK K
    first | with_reducible refine tw_reg_seq fun K hK => ?_ | (refine tw_seq_assoc ?_; with_reducible refine tw_reg_seq fun K hK => ?_)
    simp only [List.toList_toArray]
    repeat (with_reducible refine twL_step fun Cw cw => ?_; simp only [go_sem]; refine cw _ _ ?_; clear cw Cw; simp only [tput, List.set_cons_zero, List.set_cons_succ])
    refine twL_nil.2 (hK _ _ ?_); clear hK K
    refine tw_cond_seq rfl (fun h => ?_) (fun h20 => ?_)
    · first | with_reducible refine tw_reg_seq fun K hK => ?_ | (refine tw_seq_assoc ?_; with_reducible refine tw_reg_seq fun K hK => ?_)
      simp only [List.toList_toArray]
      repeat (with_reducible refine twL_step fun Cw cw => ?_; simp only [go_sem]; refine cw _ _ ?_; clear cw Cw; simp only [tput, List.set_cons_zero, List.set_cons_succ])
      with_reducible refine twL_step fun Cw cw => ?_
      simp only [go_sem]
      refine (awake_walk _).mono ?_
      rintro _ _ ⟨rfl, hg⟩
      refine cw _ _ ?_; clear cw Cw; simp only [tput, List.set_cons_zero, List.set_cons_succ]
      repeat (with_reducible refine twL_step fun Cw cw => ?_; simp only [go_sem]; refine cw _ _ ?_; clear cw Cw; simp only [tput, List.set_cons_zero, List.set_cons_succ])
      refine twL_nil.2 (hK _ _ ?_); clear hK K
      refine tw_ret_seq ?_
      simp only [tw, TX.inBlock, TX.then, tpost, tresults, Try.f4, List.toList_toArray, tresultL, tresult1, ev, List.getElem?_cons_zero, List.getElem?_cons_succ, Option.map_some, Option.bind_some]
    simp only [decide_eq_false_iff_not] at h20
    refine tw_skip_seq ?_
    first | with_reducible refine tw_reg_seq fun K hK => ?_ | (refine tw_seq_assoc ?_; with_reducible refine tw_reg_seq fun K hK => ?_)
    simp only [List.toList_toArray]
    repeat (with_reducible refine twL_step fun Cw cw => ?_; simp only [go_sem]; refine cw _ _ ?_; clear cw Cw; simp only [tput, List.set_cons_zero, List.set_cons_succ])
    refine twL_nil.2 (hK _ _ ?_); clear hK K
    first | with_reducible refine tw_reg_seq fun K hK => ?_ | (refine tw_seq_assoc ?_; with_reducible refine tw_reg_seq fun K hK => ?_)
    simp only [List.toList_toArray]
    repeat (with_reducible refine twL_step fun Cw cw => ?_; simp only [go_sem]; refine cw _ _ ?_; clear cw Cw; simp only [tput, List.set_cons_zero, List.set_cons_succ])
    refine twL_nil.2 (hK _ _ ?_); clear hK K
    refine tw_block_seq fun K hK => ?_
    refine tw_loop (fun n m s => ∃ (i : Nat) (iz : Int) (all : ByteArray) (x1 x5 x6 x7 x8 x9 x10 x11 x12 x13 x14 x15 x16 x17 x18 x19 x20 x21 x22 x23 x24 x25 x26 x27 x28 x29 x30 x31 x32 x33 x34 x35 : Option TV), m = [some (.sl none ls.length (ls.map .str)), x1, some (.bool false), some (.str all), some (.int .i64 iz), x5, x6, x7, x8, x9, x10, x11, x12, x13, x14, x15, x16, x17, x18, x19, x20, x21, x22, x23, x24, x25, x26, x27, x28, x29, x30, x31, x32, x33, x34, x35] ∧ iz = i ∧ all.data.toList = allBytes (ls.take i) ∧ all.size ≤ 2000 * i ∧ (∀ s ∈ ls.take i, s.size ≤ 2000) ∧ n = ls.length - i ∧ i ≤ ls.length ∧ s = []) (n := ls.length) ?_ ?_
    · exact ⟨0, _, _, _, _, _, _, _, _, _, _, _, _, _, _, _, _, _, _, _, _, _, _, _, _, _, _, _, _, _, _, _, _, _, _, rfl, rfl, rfl, by decide, by simp, rfl, by omega, rfl⟩
    rintro n m s ⟨i, _, all, x1, x5, x6, x7, x8, x9, x10, x11, x12, x13, x14, x15, x16, x17, x18, x19, x20, x21, x22, x23, x24, x25, x26, x27, x28, x29, x30, x31, x32, x33, x34, x35, rfl, rfl, hall, hsz, hss, rfl, hi, rfl⟩
    first | with_reducible refine tw_reg_seq fun K hK => ?_ | (refine tw_seq_assoc ?_; with_reducible refine tw_reg_seq fun K hK => ?_)
    simp only [List.toList_toArray]
    repeat (with_reducible refine twL_step fun Cw cw => ?_; simp only [go_sem]; refine cw _ _ ?_; clear cw Cw; simp only [tput, List.set_cons_zero, List.set_cons_succ])
    refine twL_nil.2 (hK _ _ ?_); clear hK K
    refine tw_cond_seq rfl (fun h => ?_) (fun h => ?_)
    · refine tw_skip_seq ?_
      simp only [decide_eq_true_eq] at h
      have hlt : i < ls.length := by omega
      have h0 : i < (ls.map TV.str).length := by rw [List.length_map]; omega
      have hb : (List.drop i (ls.map TV.str))[0]? = some (.str ls[i]) := by
        rw [List.getElem?_drop, ← strTVs_get ls i hlt]
        congr 1
      refine tw_block_seq fun K1 hK1 => ?_
      first | with_reducible refine tw_reg_seq fun K hK => ?_ | (refine tw_seq_assoc ?_; with_reducible refine tw_reg_seq fun K hK => ?_)
      simp only [List.toList_toArray]
      repeat (with_reducible refine twL_step fun Cw cw => ?_; simp only [go_sem, h, h0, hb]; refine cw _ _ ?_; clear cw Cw; simp only [tput, List.set_cons_zero, List.set_cons_succ])
      refine twL_nil.2 (hK _ _ ?_); clear hK K
      refine tw_cond_seq rfl (fun h2 => ?_) (fun h2 => ?_)
      · first | with_reducible refine tw_reg_seq fun K hK => ?_ | (refine tw_seq_assoc ?_; with_reducible refine tw_reg_seq fun K hK => ?_)
        simp only [List.toList_toArray]
        repeat (with_reducible refine twL_step fun Cw cw => ?_; simp only [go_sem]; refine cw _ _ ?_; clear cw Cw; simp only [tput, List.set_cons_zero, List.set_cons_succ])
        with_reducible refine twL_step fun Cw cw => ?_
        simp only [go_sem]
        refine (awake_walk _).mono ?_
        rintro _ _ ⟨rfl, hg⟩
        refine cw _ _ ?_; clear cw Cw; simp only [tput, List.set_cons_zero, List.set_cons_succ]
        repeat (with_reducible refine twL_step fun Cw cw => ?_; simp only [go_sem]; refine cw _ _ ?_; clear cw Cw; simp only [tput, List.set_cons_zero, List.set_cons_succ])
        refine twL_nil.2 (hK _ _ ?_); clear hK K
        refine tw_ret_seq ?_
        simp only [tw, TX.inBlock, TX.then, tpost, tresults, Try.f4, List.toList_toArray, tresultL, tresult1, ev, List.getElem?_cons_zero, List.getElem?_cons_succ, Option.map_some, Option.bind_some]
      simp only [decide_eq_false_iff_not] at h2
      refine tw_skip_seq ?_
      have hadd : ofSem (Op.stringOp .add all ls[i]) = some (.str (all ++ ls[i])) := by
        rw [str_add, if_neg]
        show ¬ (((all.size + ls[i].size : Nat) : Int) > 9223372036854775807)
        omega
      refine tw_reg_end fun K hK => ?_
      simp only [List.toList_toArray]
      repeat (with_reducible refine twL_step fun Cw cw => ?_; simp only [go_sem, h, h0, hb, hadd]; refine cw _ _ ?_; clear cw Cw; simp only [tput, List.set_cons_zero, List.set_cons_succ])
      refine twL_nil.2 (hK _ _ ?_); clear hK K
      refine hK1 _ _ ?_
      refine tw_reg_end fun K hK => ?_
      simp only [List.toList_toArray]
      repeat (with_reducible refine twL_step fun Cw cw => ?_; simp only [go_sem]; refine cw _ _ ?_; clear cw Cw; simp only [tput, List.set_cons_zero, List.set_cons_succ])
      refine twL_nil.2 (hK _ _ ?_); clear hK K
      refine ⟨ls.length - (i + 1), by omega, i + 1, _, _, _, _, _, _, _, _, _, _, _, _, _, _, _, _, _, _, _, _, _, _, _, _, _, _, _, _, _, _, _, _, _, _, rfl, by rw [wrap64_of (by omega) (by omega)]; omega, ?_, ?_, ?_, rfl, by omega, rfl⟩
      · rw [allBytes_step hlt, ← hall, ByteArray.data_append, Array.toList_append]
      · rw [ByteArray.size_append]; omega
      · rw [List.take_succ_eq_append_getElem hlt]
        intro s hs
        rcases List.mem_append.1 hs with hs | hs
        · exact hss s hs
        · rw [List.mem_singleton] at hs; subst hs; omega
    · refine tw_exit_seq ?_
      simp only [decide_eq_false_iff_not] at h
      obtain rfl : i = ls.length := by omega
      rw [List.take_length] at hall hss
      refine hK _ _ ?_; clear hK K
      first | with_reducible refine tw_reg_seq fun K hK => ?_ | (refine tw_seq_assoc ?_; with_reducible refine tw_reg_seq fun K hK => ?_)
      simp only [List.toList_toArray]
      repeat (with_reducible refine twL_step fun Cw cw => ?_; simp only [go_sem]; refine cw _ _ ?_; clear cw Cw; simp only [tput, List.set_cons_zero, List.set_cons_succ])
      with_reducible refine twL_step fun Cw cw => ?_
      simp only [go_sem]
      refine (sum_walk ls _ (fun s h => by have := hss s h; omega) (by omega)).mono ?_
      rintro _ _ ⟨rfl, hg⟩
      refine cw _ _ ?_; clear cw Cw; simp only [tput, List.set_cons_zero, List.set_cons_succ]
      repeat (with_reducible refine twL_step fun Cw cw => ?_; simp only [go_sem]; refine cw _ _ ?_; clear cw Cw; simp only [tput, List.set_cons_zero, List.set_cons_succ])
      with_reducible refine twL_step fun Cw cw => ?_
      simp only [go_sem]
      refine (refsum_walk all _ (by omega)).mono ?_
      rintro _ _ ⟨rfl, rfl⟩
      rw [hall]
      refine cw _ _ ?_; clear cw Cw; simp only [tput, List.set_cons_zero, List.set_cons_succ]
      repeat (with_reducible refine twL_step fun Cw cw => ?_; simp only [go_sem]; refine cw _ _ ?_; clear cw Cw; simp only [tput, List.set_cons_zero, List.set_cons_succ])
      with_reducible refine twL_step fun Cw cw => ?_
      simp only [go_sem]
      refine (awake_walk _).mono ?_
      rintro _ _ ⟨rfl, hg⟩
      refine cw _ _ ?_; clear cw Cw; simp only [tput, List.set_cons_zero, List.set_cons_succ]
      repeat (with_reducible refine twL_step fun Cw cw => ?_; simp only [go_sem]; refine cw _ _ ?_; clear cw Cw; simp only [tput, List.set_cons_zero, List.set_cons_succ])
      refine twL_nil.2 (hK _ _ ?_); clear hK K
      simp only [tw, TX.inBlock, TX.then, tpost, tresults, Try.f4, List.toList_toArray, tresultL, tresult1, ev, List.getElem?_cons_zero, List.getElem?_cons_succ, Option.map_some, Option.bind_some]

open Go.ChangeShapes Go.WideShapes Go.ChangeAt Go.RowKit
theorem own : ownKnob Try.prog.godebug = none := by kernel_rfl
theorem laidOut : laidOutB Try.prog = true := by kernel_rfl
set_option maxRecDepth 100000 in
theorem lifted (os : Os) (started : os.Started) (H : Type) (enc : TypeId × Value → H) :
    ReturnsInHanded {} Try.checked os 4 .any (Rows.crcSumsSpec.pre6 enc Try.prog Try.f4 Rows.crcSumsRow.domain false) (Rows.crcSumsSpec.post enc Try.prog Try.f4 false true false false) := by
  refine returnsInHanded_of_change (C := Try.checked) own started (by kernel_rfl) Try.func4
    (ChangeSpec.witness6 (enc := enc) (C := Try.checked) false ⟨#[], #[.slice none 0 0], []⟩ 8 (by kernel_rfl) (by kernel_rfl) (by kernel_rfl) (by kernel_rfl)) ?_
  intro W base args ds gs before hval hW hcnd _
  exact law_contract (rt := 4) 3 laidOut rfl (by intro ds h; match ds, h with | [_], _ => rfl) (by kernel_rfl) (by kernel_rfl) (by kernel_rfl) (by kernel_rfl) calls W base args ds gs before hval hW
theorem over : Rows.crcSumsRow.holds Try.pinned (OpenSpec.ofChange Rows.crcSumsSpec) :=
  OpenClaim.holds_of_wide 4 Try.f4 rfl rfl rfl rfl rfl rfl rfl ⟨rfl, rfl, rfl, rfl, rfl⟩ rfl rfl rfl rfl rfl (by kernel_rfl) Try.func4 (by kernel_rfl)
    (of_decide_eq_true (by kernel_rfl)) (by unfold Func.isWrapper; first | (rw [if_pos (by decide +kernel)]; kernel_rfl) | (rw [if_neg (by decide +kernel)]; exact ⟨rfl, rfl⟩))
    (fun os started H enc _ => lifted os started H enc)
theorem proved : Rows.CrcSumsSaid := over
end Go.Proofs.Ytceidfifaoooiaa.crcSumsDone
