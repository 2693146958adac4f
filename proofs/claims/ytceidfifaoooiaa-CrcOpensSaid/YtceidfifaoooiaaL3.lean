/- CrcOpens: which texts are sealed, and what is in them. -/
import Derived.Test.YtceidfifaoooiaaRows
import Derived.WalkKit
import Derived.ProofKit
import Derived.OpenShut
import Derived.ShutString
import Derived.ChangeOld
import Derived.Below
import Derived.Test.YtceidfifaoooiaaC3
set_option linter.unusedVariables false
set_option linter.unusedSimpArgs false
set_option maxRecDepth 10000
namespace Go.Proofs.Ytceidfifaoooiaa.crcOpensDone
open Go.TM

theorem calls (tvs : List TV) (h : TyAll (mkTab Try.prog) 3 Try.f5.params.toList tvs) : TCalls Try.prog 5 tvs [] fun tv _ => tv = .bool true := by
  rw [show Try.f5.params.toList = [9] by kernel_rfl] at h
  obtain ⟨a, _, rfl, ha, h⟩ := TyAll_cons h
  obtain rfl := TyAll_nil h
  obtain ⟨s, rfl, hs⟩ := TyV_str tab9 rfl ha
  refine tcalls_of [] Try.func5 (by kernel_rfl) rfl ?_
  show tw _ _ _ _ ([some _] ++ List.replicate 38 none) _
  simp only [List.replicate, List.cons_append, List.nil_append]
  first | with_reducible refine tw_reg_seq fun K hK => ?_ | (refine tw_seq_assoc ?_; with_reducible refine tw_reg_seq fun K hK => ?_)
  simp only [List.toList_toArray]
  repeat (with_reducible refine twL_step fun Cw cw => ?_; simp only [go_sem]; refine cw _ _ ?_; clear cw Cw; simp only [tput, List.set_cons_zero, List.set_cons_succ])
  refine twL_nil.2 (hK _ _ ?_); clear hK K
  first | with_reducible refine tw_reg_seq fun K hK => ?_ | (refine tw_seq_assoc ?_; with_reducible refine tw_reg_seq fun K hK => ?_)
  simp only [List.toList_toArray]
  repeat (with_reducible refine twL_step fun Cw cw => ?_; simp only [go_sem]; refine cw _ _ ?_; clear cw Cw; simp only [tput, List.set_cons_zero, List.set_cons_succ])
  refine twL_nil.2 (hK _ _ ?_); clear hK K
  refine tw_cond_seq rfl (fun h5 => ?_) (fun h5 => ?_)
  · first | with_reducible refine tw_reg_seq fun K hK => ?_ | (refine tw_seq_assoc ?_; with_reducible refine tw_reg_seq fun K hK => ?_)
    simp only [List.toList_toArray]
    repeat (with_reducible refine twL_step fun Cw cw => ?_; simp only [go_sem]; refine cw _ _ ?_; clear cw Cw; simp only [tput, List.set_cons_zero, List.set_cons_succ])
    with_reducible refine twL_step fun Cw cw => ?_
    simp only [go_sem]
    refine (awake_walk _).mono ?_
    rintro _ _ ⟨rfl, hg⟩
    refine cw _ _ ?_; clear cw Cw; simp only [tput, List.set_cons_zero, List.set_cons_succ]
    repeat (with_reducible refine twL_step fun Cw cw => ?_; simp only [go_sem]; refine cw _ _ ?_; clear cw Cw; simp only [tput, List.set_cons_zero, List.set_cons_succ])
    refine twL_nil.2 (hK _ _ ?_); clear hK K
    refine tw_ret_seq ?_
    simp only [tw, TX.inBlock, TX.then, tpost, tresults, Try.f5, List.toList_toArray, tresultL, tresult1, ev, List.getElem?_cons_zero, List.getElem?_cons_succ, Option.map_some, Option.bind_some]
  · refine tw_skip_seq ?_
    simp only [decide_eq_false_iff_not] at h5
    first | with_reducible refine tw_reg_seq fun K hK => ?_ | (refine tw_seq_assoc ?_; with_reducible refine tw_reg_seq fun K hK => ?_)
    simp only [List.toList_toArray]
    repeat (with_reducible refine twL_step fun Cw cw => ?_; simp only [go_sem]; refine cw _ _ ?_; clear cw Cw; simp only [tput, List.set_cons_zero, List.set_cons_succ])
    with_reducible refine twL_step fun Cw cw => ?_
    simp only [go_sem]
    refine (open_walk s _ (by omega)).mono ?_
    rintro _ σ1 ⟨rfl, hg⟩
    refine cw _ _ ?_; clear cw Cw; simp only [tput, List.set_cons_zero, List.set_cons_succ]
    repeat (with_reducible refine twL_step fun Cw cw => ?_; simp only [go_sem]; refine cw _ _ ?_; clear cw Cw; simp only [tput, List.set_cons_zero, List.set_cons_succ])
    refine twL_nil.2 (hK _ _ ?_); clear hK K
    first | with_reducible refine tw_reg_seq fun K hK => ?_ | (refine tw_seq_assoc ?_; with_reducible refine tw_reg_seq fun K hK => ?_)
    simp only [List.toList_toArray]
    repeat (with_reducible refine twL_step fun Cw cw => ?_; simp only [go_sem]; refine cw _ _ ?_; clear cw Cw; simp only [tput, List.set_cons_zero, List.set_cons_succ])
    with_reducible refine twL_step fun Cw cw => ?_
    simp only [go_sem]
    refine (refopen_walk s _ (by omega)).mono ?_
    rintro _ _ ⟨rfl, rfl⟩
    refine cw _ _ ?_; clear cw Cw; simp only [tput, List.set_cons_zero, List.set_cons_succ]
    repeat (with_reducible refine twL_step fun Cw cw => ?_; simp only [go_sem]; refine cw _ _ ?_; clear cw Cw; simp only [tput, List.set_cons_zero, List.set_cons_succ])
    refine twL_nil.2 (hK _ _ ?_); clear hK K
    first | with_reducible refine tw_reg_seq fun K hK => ?_ | (refine tw_seq_assoc ?_; with_reducible refine tw_reg_seq fun K hK => ?_)
    simp only [List.toList_toArray]
    repeat (with_reducible refine twL_step fun Cw cw => ?_; simp only [go_sem]; refine cw _ _ ?_; clear cw Cw; simp only [tput, List.set_cons_zero, List.set_cons_succ])
    with_reducible refine twL_step fun Cw cw => ?_
    simp only [go_sem]
    refine (seal_walk s _ (by omega)).mono ?_
    rintro _ σ2 ⟨rfl, hg⟩
    refine cw _ _ ?_; clear cw Cw; simp only [tput, List.set_cons_zero, List.set_cons_succ]
    repeat (with_reducible refine twL_step fun Cw cw => ?_; simp only [go_sem]; refine cw _ _ ?_; clear cw Cw; simp only [tput, List.set_cons_zero, List.set_cons_succ])
    with_reducible refine twL_step fun Cw cw => ?_
    simp only [go_sem]
    refine (refseal_walk s _ (by omega)).mono ?_
    rintro _ _ ⟨rfl, rfl⟩
    refine cw _ _ ?_; clear cw Cw; simp only [tput, List.set_cons_zero, List.set_cons_succ]
    repeat (with_reducible refine twL_step fun Cw cw => ?_; simp only [go_sem]; refine cw _ _ ?_; clear cw Cw; simp only [tput, List.set_cons_zero, List.set_cons_succ])
    with_reducible refine twL_step fun Cw cw => ?_
    simp only [go_sem]
    refine (awake_walk _).mono ?_
    rintro _ _ ⟨rfl, hg⟩
    refine cw _ _ ?_; clear cw Cw; simp only [tput, List.set_cons_zero, List.set_cons_succ]
    repeat (with_reducible refine twL_step fun Cw cw => ?_; simp only [go_sem]; refine cw _ _ ?_; clear cw Cw; simp only [tput, List.set_cons_zero, List.set_cons_succ])
    refine twL_nil.2 (hK _ _ ?_); clear hK K
    simp only [tw, TX.inBlock, TX.then, tpost, tresults, Try.f5, List.toList_toArray, tresultL, tresult1, ev, List.getElem?_cons_zero, List.getElem?_cons_succ, Option.map_some, Option.bind_some]

open Go.ChangeShapes Go.WideShapes Go.ChangeAt Go.RowKit
theorem own : ownKnob Try.prog.godebug = none := by kernel_rfl
theorem laidOut : laidOutB Try.prog = true := by kernel_rfl
set_option maxRecDepth 100000 in
theorem lifted (os : Os) (started : os.Started) (H : Type) (enc : TypeId × Value → H) :
    ReturnsInHanded {} Try.checked os 5 .any (Rows.crcOpensSpec.pre6 enc Try.prog Try.f5 Rows.crcOpensRow.domain false) (Rows.crcOpensSpec.post enc Try.prog Try.f5 false true false false) := by
  refine returnsInHanded_of_change (C := Try.checked) own started (by kernel_rfl) Try.func5
    (ChangeSpec.witness6 (enc := enc) (C := Try.checked) false ⟨#[], #[.string ⟨#[]⟩], []⟩ 8 (by kernel_rfl) (by kernel_rfl) (by kernel_rfl) (by kernel_rfl)) ?_
  intro W base args ds gs before hval hW hcnd _
  exact law_contract (rt := 4) 3 laidOut rfl (by intro ds h; match ds, h with | [_], _ => rfl) (by kernel_rfl) (by kernel_rfl) (by kernel_rfl) (by kernel_rfl) calls W base args ds gs before hval hW
theorem over : Rows.crcOpensRow.holds Try.pinned (OpenSpec.ofChange Rows.crcOpensSpec) :=
  OpenClaim.holds_of_wide 5 Try.f5 rfl rfl rfl rfl rfl rfl rfl ⟨rfl, rfl, rfl, rfl, rfl⟩ rfl rfl rfl rfl rfl (by kernel_rfl) Try.func5 (by kernel_rfl)
    (of_decide_eq_true (by kernel_rfl)) (by unfold Func.isWrapper; first | (rw [if_pos (by decide +kernel)]; kernel_rfl) | (rw [if_neg (by decide +kernel)]; exact ⟨rfl, rfl⟩))
    (fun os started H enc _ => lifted os started H enc)
theorem proved : Rows.CrcOpensSaid := over
end Go.Proofs.Ytceidfifaoooiaa.crcOpensDone
