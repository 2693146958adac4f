/- CrcShort: of a sealed text no beginning that is shorter than four bytes is opened, and one more byte behind is told. -/
import Derived.Test.YtceidfifaoooiaaRows
import Derived.WalkKit
import Derived.ProofKit
import Derived.OpenShut
import Derived.ShutString
import Derived.ChangeOld
import Derived.Below
import Derived.Test.YtceidfifaoooiaaC3
set_option linter.unusedVariables false
set_option linter.unusedSimpArgs false
set_option maxRecDepth 10000
namespace Go.Proofs.Ytceidfifaoooiaa.crcShortDone
open Go.TM

theorem short_walk (s : ByteArray) (at' : Int) : TCalls Try.prog 8 [.str s, .int .i64 at'] [] fun tv _ => tv = .bool true := by
  refine tcalls_of [] Try.func8 (by kernel_rfl) rfl ?_
  show tw _ _ _ _ ([some _, some _] ++ List.replicate 74 none) _
  simp only [List.replicate, List.cons_append, List.nil_append]
  first | with_reducible refine tw_reg_seq fun K hK => ?_ | (refine tw_seq_assoc ?_; with_reducible refine tw_reg_seq fun K hK => ?_)
  simp only [List.toList_toArray]
  repeat (with_reducible refine twL_step fun Cw cw => ?_; simp only [go_sem]; refine cw _ _ ?_; clear cw Cw; simp only [tput, List.set_cons_zero, List.set_cons_succ])
  refine twL_nil.2 (hK _ _ ?_); clear hK K
  by_cases hA : (s.size : Int) > 3000
  · first | with_reducible refine tw_reg_seq fun K hK => ?_ | (refine tw_seq_assoc ?_; with_reducible refine tw_reg_seq fun K hK => ?_)
    simp only [List.toList_toArray]
    repeat (with_reducible refine twL_step fun Cw cw => ?_; simp only [go_sem, hA]; refine cw _ _ ?_; clear cw Cw; simp only [tput, List.set_cons_zero, List.set_cons_succ])
    refine twL_nil.2 (hK _ _ ?_); clear hK K
    refine tw_cond_seq rfl (fun h => ?_) (fun h => by cases h)
    first | with_reducible refine tw_reg_seq fun K hK => ?_ | (refine tw_seq_assoc ?_; with_reducible refine tw_reg_seq fun K hK => ?_)
    simp only [List.toList_toArray]
    repeat (with_reducible refine twL_step fun Cw cw => ?_; simp only [go_sem]; refine cw _ _ ?_; clear cw Cw; simp only [tput, List.set_cons_zero, List.set_cons_succ])
    with_reducible refine twL_step fun Cw cw => ?_
    simp only [go_sem]
    refine (awake_walk _).mono ?_
    rintro _ _ ⟨rfl, hg⟩
    refine cw _ _ ?_; clear cw Cw; simp only [tput, List.set_cons_zero, List.set_cons_succ]
    repeat (with_reducible refine twL_step fun Cw cw => ?_; simp only [go_sem]; refine cw _ _ ?_; clear cw Cw; simp only [tput, List.set_cons_zero, List.set_cons_succ])
    refine twL_nil.2 (hK _ _ ?_); clear hK K
    refine tw_ret_seq ?_
    simp only [tw, TX.inBlock, TX.then, tpost, tresults, Try.f8, List.toList_toArray, tresultL, tresult1, ev, List.getElem?_cons_zero, List.getElem?_cons_succ, Option.map_some, Option.bind_some]
  by_cases hB : at' < 0
  · first | with_reducible refine tw_reg_seq fun K hK => ?_ | (refine tw_seq_assoc ?_; with_reducible refine tw_reg_seq fun K hK => ?_)
    simp only [List.toList_toArray]
    repeat (with_reducible refine twL_step fun Cw cw => ?_; simp only [go_sem, hA, hB]; refine cw _ _ ?_; clear cw Cw; simp only [tput, List.set_cons_zero, List.set_cons_succ])
    refine twL_nil.2 (hK _ _ ?_); clear hK K
    refine tw_cond_seq rfl (fun h => ?_) (fun h => by cases h)
    first | with_reducible refine tw_reg_seq fun K hK => ?_ | (refine tw_seq_assoc ?_; with_reducible refine tw_reg_seq fun K hK => ?_)
    simp only [List.toList_toArray]
    repeat (with_reducible refine twL_step fun Cw cw => ?_; simp only [go_sem]; refine cw _ _ ?_; clear cw Cw; simp only [tput, List.set_cons_zero, List.set_cons_succ])
    with_reducible refine twL_step fun Cw cw => ?_
    simp only [go_sem]
    refine (awake_walk _).mono ?_
    rintro _ _ ⟨rfl, hg⟩
    refine cw _ _ ?_; clear cw Cw; simp only [tput, List.set_cons_zero, List.set_cons_succ]
    repeat (with_reducible refine twL_step fun Cw cw => ?_; simp only [go_sem]; refine cw _ _ ?_; clear cw Cw; simp only [tput, List.set_cons_zero, List.set_cons_succ])
    refine twL_nil.2 (hK _ _ ?_); clear hK K
    refine tw_ret_seq ?_
    simp only [tw, TX.inBlock, TX.then, tpost, tresults, Try.f8, List.toList_toArray, tresultL, tresult1, ev, List.getElem?_cons_zero, List.getElem?_cons_succ, Option.map_some, Option.bind_some]
  by_cases hC : at' > 3
  · first | with_reducible refine tw_reg_seq fun K hK => ?_ | (refine tw_seq_assoc ?_; with_reducible refine tw_reg_seq fun K hK => ?_)
    simp only [List.toList_toArray]
    repeat (with_reducible refine twL_step fun Cw cw => ?_; simp only [go_sem, hA, hB, hC]; refine cw _ _ ?_; clear cw Cw; simp only [tput, List.set_cons_zero, List.set_cons_succ])
    refine twL_nil.2 (hK _ _ ?_); clear hK K
    refine tw_cond_seq rfl (fun h => ?_) (fun h => by cases h)
    first | with_reducible refine tw_reg_seq fun K hK => ?_ | (refine tw_seq_assoc ?_; with_reducible refine tw_reg_seq fun K hK => ?_)
    simp only [List.toList_toArray]
    repeat (with_reducible refine twL_step fun Cw cw => ?_; simp only [go_sem]; refine cw _ _ ?_; clear cw Cw; simp only [tput, List.set_cons_zero, List.set_cons_succ])
    with_reducible refine twL_step fun Cw cw => ?_
    simp only [go_sem]
    refine (awake_walk _).mono ?_
    rintro _ _ ⟨rfl, hg⟩
    refine cw _ _ ?_; clear cw Cw; simp only [tput, List.set_cons_zero, List.set_cons_succ]
    repeat (with_reducible refine twL_step fun Cw cw => ?_; simp only [go_sem]; refine cw _ _ ?_; clear cw Cw; simp only [tput, List.set_cons_zero, List.set_cons_succ])
    refine twL_nil.2 (hK _ _ ?_); clear hK K
    refine tw_ret_seq ?_
    simp only [tw, TX.inBlock, TX.then, tpost, tresults, Try.f8, List.toList_toArray, tresultL, tresult1, ev, List.getElem?_cons_zero, List.getElem?_cons_succ, Option.map_some, Option.bind_some]
  first | with_reducible refine tw_reg_seq fun K hK => ?_ | (refine tw_seq_assoc ?_; with_reducible refine tw_reg_seq fun K hK => ?_)
  simp only [List.toList_toArray]
  repeat (with_reducible refine twL_step fun Cw cw => ?_; simp only [go_sem, hA, hB, hC]; refine cw _ _ ?_; clear cw Cw; simp only [tput, List.set_cons_zero, List.set_cons_succ])
  refine twL_nil.2 (hK _ _ ?_); clear hK K
  refine tw_cond_seq rfl (fun h => by cases h) (fun h => ?_)
  refine tw_skip_seq ?_
  have hz : (sealB s).size = s.size + 4 := sealB_size s
  obtain ⟨i, rfl⟩ : ∃ i : Nat, at' = i := ⟨at'.toNat, by omega⟩
  first | with_reducible refine tw_reg_seq fun K hK => ?_ | (refine tw_seq_assoc ?_; with_reducible refine tw_reg_seq fun K hK => ?_)
  simp only [List.toList_toArray]
  repeat (with_reducible refine twL_step fun Cw cw => ?_; simp only [go_sem]; refine cw _ _ ?_; clear cw Cw; simp only [tput, List.set_cons_zero, List.set_cons_succ])
  with_reducible refine twL_step fun Cw cw => ?_
  simp only [go_sem]
  refine (seal_walk s _ (by omega)).mono ?_
  rintro _ σ1 ⟨rfl, hg⟩
  refine cw _ _ ?_; clear cw Cw; simp only [tput, List.set_cons_zero, List.set_cons_succ]
  repeat (with_reducible refine twL_step fun Cw cw => ?_; simp only [go_sem]; refine cw _ _ ?_; clear cw Cw; simp only [tput, List.set_cons_zero, List.set_cons_succ])
  refine twL_nil.2 (hK _ _ ?_); clear hK K
  have h4 : ¬ (((s.size + 4 : Nat) : Int) < 4) := by omega
  first | with_reducible refine tw_reg_seq fun K hK => ?_ | (refine tw_seq_assoc ?_; with_reducible refine tw_reg_seq fun K hK => ?_)
  simp only [List.toList_toArray]
  repeat (with_reducible refine twL_step fun Cw cw => ?_; simp only [go_sem, hz, h4]; refine cw _ _ ?_; clear cw Cw; simp only [tput, List.set_cons_zero, List.set_cons_succ])
  refine twL_nil.2 (hK _ _ ?_); clear hK K
  refine tw_cond_seq rfl (fun h => by cases h) (fun h => ?_)
  refine tw_skip_seq ?_
  have hi : i ≤ s.size + 4 := by omega
  first | with_reducible refine tw_reg_seq fun K hK => ?_ | (refine tw_seq_assoc ?_; with_reducible refine tw_reg_seq fun K hK => ?_)
  simp only [List.toList_toArray]
  repeat (with_reducible refine twL_step fun Cw cw => ?_; simp only [go_sem, hz, hi]; refine cw _ _ ?_; clear cw Cw; simp only [tput, List.set_cons_zero, List.set_cons_succ])
  with_reducible refine twL_step fun Cw cw => ?_
  simp only [go_sem, hz, hi]
  refine (open_walk _ _ (by rw [size_extract _ _ (by omega)]; omega)).mono ?_
  rintro _ σ2 ⟨rfl, hg⟩
  rw [show openB ((sealB s).extract 0 i) = (⟨#[]⟩, 10) by unfold openB; rw [if_pos (by rw [size_extract _ _ (by omega)]; omega)]]
  refine cw _ _ ?_; clear cw Cw; simp only [tput, List.set_cons_zero, List.set_cons_succ]
  repeat (with_reducible refine twL_step fun Cw cw => ?_; simp only [go_sem]; refine cw _ _ ?_; clear cw Cw; simp only [tput, List.set_cons_zero, List.set_cons_succ])
  refine twL_nil.2 (hK _ _ ?_); clear hK K
  have hadd : ofSem (Op.stringOp .add (sealB s) ⟨#[120]⟩) = some (.str (sealB s ++ ⟨#[120]⟩)) := by
    rw [str_add, if_neg]
    show ¬ ((((sealB s).size + 1 : Nat) : Int) > 9223372036854775807)
    omega
  have hsz : (sealB s ++ ⟨#[120]⟩).size = s.size + 5 := by rw [ByteArray.size_append, hz]; rfl
  first | with_reducible refine tw_reg_seq fun K hK => ?_ | (refine tw_seq_assoc ?_; with_reducible refine tw_reg_seq fun K hK => ?_)
  simp only [List.toList_toArray]
  repeat (with_reducible refine twL_step fun Cw cw => ?_; simp only [go_sem, hadd]; refine cw _ _ ?_; clear cw Cw; simp only [tput, List.set_cons_zero, List.set_cons_succ])
  with_reducible refine twL_step fun Cw cw => ?_
  simp only [go_sem, hadd]
  refine (open_walk _ _ (by omega)).mono ?_
  rintro _ σ3 ⟨rfl, hg⟩
  refine cw _ _ ?_; clear cw Cw; simp only [tput, List.set_cons_zero, List.set_cons_succ]
  repeat (with_reducible refine twL_step fun Cw cw => ?_; simp only [go_sem]; refine cw _ _ ?_; clear cw Cw; simp only [tput, List.set_cons_zero, List.set_cons_succ])
  refine twL_nil.2 (hK _ _ ?_); clear hK K
  have hw : IntKind.i64.wrap (((s.size + 4 : Nat) : Int) - 3) = ((s.size + 1 : Nat) : Int) := by rw [wrap64_of (by omega) (by omega)]; omega
  have hi1 : s.size + 1 ≤ s.size + 4 := by omega
  first | with_reducible refine tw_reg_seq fun K hK => ?_ | (refine tw_seq_assoc ?_; with_reducible refine tw_reg_seq fun K hK => ?_)
  simp only [List.toList_toArray]
  repeat (with_reducible refine twL_step fun Cw cw => ?_; simp only [go_sem, hz, hw, hi1]; refine cw _ _ ?_; clear cw Cw; simp only [tput, List.set_cons_zero, List.set_cons_succ])
  with_reducible refine twL_step fun Cw cw => ?_
  simp only [go_sem, hz, hw, hi1]
  refine (seal_walk _ _ (by rw [size_extract _ _ (by omega)]; omega)).mono ?_
  rintro _ σ4 ⟨rfl, hg⟩
  refine cw _ _ ?_; clear cw Cw; simp only [tput, List.set_cons_zero, List.set_cons_succ]
  repeat (with_reducible refine twL_step fun Cw cw => ?_; simp only [go_sem, hadd]; refine cw _ _ ?_; clear cw Cw; simp only [tput, List.set_cons_zero, List.set_cons_succ])
  refine twL_nil.2 (hK _ _ ?_); clear hK K
  have hex : (sealB s ++ ⟨#[120]⟩).extract 0 ((sealB s ++ ⟨#[120]⟩).size - 4) = (sealB s).extract 0 (s.size + 1) := by
    rw [hsz, show s.size + 5 - 4 = s.size + 1 by omega]
    apply ByteArray.ext
    rw [ByteArray.data_extract, ByteArray.data_extract, ByteArray.data_append]
    apply Array.ext'
    simp
    rw [List.take_append_of_le_length (by rw [data_length]; omega)]
  by_cases hE : sealB ((sealB s).extract 0 (s.size + 1)) = sealB s ++ ⟨#[120]⟩
  · have ho : openB (sealB s ++ ⟨#[120]⟩) = ((sealB s).extract 0 (s.size + 1), 0) := by
      unfold openB
      rw [hex, if_neg (by omega), if_pos hE]
    rw [ho]
    first | with_reducible refine tw_reg_seq fun K hK => ?_ | (refine tw_seq_assoc ?_; with_reducible refine tw_reg_seq fun K hK => ?_)
    simp only [List.toList_toArray]
    repeat (with_reducible refine twL_step fun Cw cw => ?_; simp only [go_sem, hE]; refine cw _ _ ?_; clear cw Cw; simp only [tput, List.set_cons_zero, List.set_cons_succ])
    with_reducible refine twL_step fun Cw cw => ?_
    simp only [go_sem, hE]
    refine (awake_walk _).mono ?_
    rintro _ _ ⟨rfl, hg⟩
    refine cw _ _ ?_; clear cw Cw; simp only [tput, List.set_cons_zero, List.set_cons_succ]
    repeat (with_reducible refine twL_step fun Cw cw => ?_; simp only [go_sem]; refine cw _ _ ?_; clear cw Cw; simp only [tput, List.set_cons_zero, List.set_cons_succ])
    refine twL_nil.2 (hK _ _ ?_); clear hK K
    simp only [tw, TX.inBlock, TX.then, tpost, tresults, Try.f8, List.toList_toArray, tresultL, tresult1, ev, List.getElem?_cons_zero, List.getElem?_cons_succ, Option.map_some, Option.bind_some]
  · have ho : openB (sealB s ++ ⟨#[120]⟩) = (⟨#[]⟩, 12) := by
      unfold openB
      rw [hex, if_neg (by omega), if_neg hE]
    rw [ho]
    first | with_reducible refine tw_reg_seq fun K hK => ?_ | (refine tw_seq_assoc ?_; with_reducible refine tw_reg_seq fun K hK => ?_)
    simp only [List.toList_toArray]
    repeat (with_reducible refine twL_step fun Cw cw => ?_; simp only [go_sem, hE]; refine cw _ _ ?_; clear cw Cw; simp only [tput, List.set_cons_zero, List.set_cons_succ])
    with_reducible refine twL_step fun Cw cw => ?_
    simp only [go_sem, hE]
    refine (awake_walk _).mono ?_
    rintro _ _ ⟨rfl, hg⟩
    refine cw _ _ ?_; clear cw Cw; simp only [tput, List.set_cons_zero, List.set_cons_succ]
    repeat (with_reducible refine twL_step fun Cw cw => ?_; simp only [go_sem]; refine cw _ _ ?_; clear cw Cw; simp only [tput, List.set_cons_zero, List.set_cons_succ])
    refine twL_nil.2 (hK _ _ ?_); clear hK K
    simp only [tw, TX.inBlock, TX.then, tpost, tresults, Try.f8, List.toList_toArray, tresultL, tresult1, ev, List.getElem?_cons_zero, List.getElem?_cons_succ, Option.map_some, Option.bind_some]

theorem calls (tvs : List TV) (h : TyAll (mkTab Try.prog) 3 Try.f8.params.toList tvs) : TCalls Try.prog 8 tvs [] fun tv _ => tv = .bool true := by
  rw [show Try.f8.params.toList = [9, 3] by kernel_rfl] at h
  obtain ⟨a, _, rfl, ha, h⟩ := TyAll_cons h
  obtain ⟨b, _, rfl, hb, h⟩ := TyAll_cons h
  obtain rfl := TyAll_nil h
  obtain ⟨s, rfl, -⟩ := TyV_str tab9 rfl ha
  obtain ⟨t, rfl, -⟩ := TyV_int tab3 rfl hb
  exact short_walk s t

open Go.ChangeShapes Go.WideShapes Go.ChangeAt Go.RowKit
theorem own : ownKnob Try.prog.godebug = none := by kernel_rfl
theorem laidOut : laidOutB Try.prog = true := by kernel_rfl
set_option maxRecDepth 100000 in
theorem lifted (os : Os) (started : os.Started) (H : Type) (enc : TypeId × Value → H) :
    ReturnsInHanded {} Try.checked os 8 .any (Rows.crcShortSpec.pre6 enc Try.prog Try.f8 Rows.crcShortRow.domain false) (Rows.crcShortSpec.post enc Try.prog Try.f8 false true false false) := by
  refine returnsInHanded_of_change (C := Try.checked) own started (by kernel_rfl) Try.func8
    (ChangeSpec.witness6 (enc := enc) (C := Try.checked) false ⟨#[], #[.string ⟨#[]⟩, .int .i64 0], []⟩ 8 (by kernel_rfl) (by kernel_rfl) (by kernel_rfl) (by kernel_rfl)) ?_
  intro W base args ds gs before hval hW hcnd _
  exact law_contract (rt := 4) 3 laidOut rfl (by intro ds h; match ds, h with | [_, _], _ => rfl) (by kernel_rfl) (by kernel_rfl) (by kernel_rfl) (by kernel_rfl) calls W base args ds gs before hval hW
theorem over : Rows.crcShortRow.holds Try.pinned (OpenSpec.ofChange Rows.crcShortSpec) :=
  OpenClaim.holds_of_wide 8 Try.f8 rfl rfl rfl rfl rfl rfl rfl ⟨rfl, rfl, rfl, rfl, rfl⟩ rfl rfl rfl rfl rfl (by kernel_rfl) Try.func8 (by kernel_rfl)
    (of_decide_eq_true (by kernel_rfl)) (by unfold Func.isWrapper; first | (rw [if_pos (by decide +kernel)]; kernel_rfl) | (rw [if_neg (by decide +kernel)]; exact ⟨rfl, rfl⟩))
    (fun os started H enc _ => lifted os started H enc)
theorem proved : Rows.CrcShortSaid := over
end Go.Proofs.Ytceidfifaoooiaa.crcShortDone
