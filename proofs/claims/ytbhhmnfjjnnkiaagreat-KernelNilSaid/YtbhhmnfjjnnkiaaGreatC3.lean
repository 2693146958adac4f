/- The crc seat: Open, the document's functions, awake. -/
import Derived.Test.YtbhhmnfjjnnkiaaGreatC2
set_option linter.unusedVariables false
set_option linter.unusedSimpArgs false
set_option maxRecDepth 10000
namespace Go.Proofs.YtbhhmnfjjnnkiaaGreat
open Go.TM

theorem sealB_size (s : ByteArray) : (sealB s).size = s.size + 4 := by
  show (sealL s.data.toList).toArray.size = _
  simp [sealL]

def openB (s : ByteArray) : ByteArray × Int :=
  if s.size < 4 then (⟨#[]⟩, 10) else if sealB (s.extract 0 (s.size - 4)) = s then (s.extract 0 (s.size - 4), 0) else (⟨#[]⟩, 12)

theorem size_extract (s : ByteArray) (n : Nat) (h : n ≤ s.size) : (s.extract 0 n).size = n := by
  rw [ByteArray.size_extract]; omega

theorem open_walk (s : ByteArray) (σ : TS) (hs : s.size ≤ 100000) :
    TCalls Tryz.prog 143 [.str s] σ fun r σ' => r = .tup [.str (openB s).1, .int .i64 (openB s).2] ∧ Grew σ σ' := by
  refine tcalls_of [] Tryz.func143 (by kernel_rfl) rfl ?_
  show tw _ _ _ _ ([some _] ++ List.replicate 18 none) _
  simp only [List.replicate, List.cons_append, List.nil_append]
  by_cases h4 : s.size < 4
  · have hw : IntKind.i64.wrap ((s.size : Int) - 4) = (s.size : Int) - 4 := wrap64_of (by omega) (by omega)
    have ho : openB s = (⟨#[]⟩, 10) := by unfold openB; rw [if_pos h4]
    have hd : decide ((s.size : Int) - 4 < 0) = true := by rw [decide_eq_true_eq]; omega
    first | with_reducible refine tw_reg_seq fun K hK => ?_ | (refine tw_seq_assoc ?_; with_reducible refine tw_reg_seq fun K hK => ?_)
    simp only [List.toList_toArray, List.append_eq, List.cons_append, List.nil_append]
    repeat (first | (first | with_reducible refine twL_go fun Cw cw => ?_ | with_reducible refine twL_yes rfl fun Cw cw => ?_); simp only [go_sem]; (first | refine cw _ _ ?_ | refine Or.inl (cw _ _ ?_)); clear cw Cw; simp only [tput, List.set_cons_zero, List.set_cons_succ] | (with_reducible refine twL_no _ rfl rfl ?_); simp only [tput, List.set_cons_zero, List.set_cons_succ])
    refine twL_nil.2 (hK _ _ ?_); clear hK K
    first | with_reducible refine tw_reg_seq fun K hK => ?_ | (refine tw_seq_assoc ?_; with_reducible refine tw_reg_seq fun K hK => ?_)
    simp only [List.toList_toArray, List.append_eq, List.cons_append, List.nil_append]
    repeat (first | (first | with_reducible refine twL_go fun Cw cw => ?_ | with_reducible refine twL_yes rfl fun Cw cw => ?_); simp only [go_sem, hw]; (first | refine cw _ _ ?_ | refine Or.inl (cw _ _ ?_)); clear cw Cw; simp only [tput, List.set_cons_zero, List.set_cons_succ] | (with_reducible refine twL_no _ rfl rfl ?_); simp only [tput, List.set_cons_zero, List.set_cons_succ])
    refine twL_nil.2 (hK _ _ ?_); clear hK K
    first | with_reducible refine tw_reg_seq fun K hK => ?_ | (refine tw_seq_assoc ?_; with_reducible refine tw_reg_seq fun K hK => ?_)
    simp only [List.toList_toArray, List.append_eq, List.cons_append, List.nil_append]
    repeat (first | (first | with_reducible refine twL_go fun Cw cw => ?_ | with_reducible refine twL_yes rfl fun Cw cw => ?_); simp only [go_sem, hd]; (first | refine cw _ _ ?_ | refine Or.inl (cw _ _ ?_)); clear cw Cw; simp only [tput, List.set_cons_zero, List.set_cons_succ] | (with_reducible refine twL_no _ rfl rfl ?_); simp only [tput, List.set_cons_zero, List.set_cons_succ])
    refine twL_nil.2 (hK _ _ ?_); clear hK K
    refine tw_cond_seq rfl (fun _ => ?_) (fun h => by cases h)
    first | with_reducible refine tw_reg_seq fun K hK => ?_ | (refine tw_seq_assoc ?_; with_reducible refine tw_reg_seq fun K hK => ?_)
    simp only [List.toList_toArray, List.append_eq, List.cons_append, List.nil_append]
    repeat (first | (first | with_reducible refine twL_go fun Cw cw => ?_ | with_reducible refine twL_yes rfl fun Cw cw => ?_); simp only [go_sem]; (first | refine cw _ _ ?_ | refine Or.inl (cw _ _ ?_)); clear cw Cw; simp only [tput, List.set_cons_zero, List.set_cons_succ] | (with_reducible refine twL_no _ rfl rfl ?_); simp only [tput, List.set_cons_zero, List.set_cons_succ])
    refine twL_nil.2 (hK _ _ ?_); clear hK K
    refine tw_ret_seq ?_
    simp only [tw, TX.inBlock, TX.then, tpost, tresults, Tryz.f143, List.toList_toArray, tresultL, tresult1, ev, List.getElem?_cons_zero, List.getElem?_cons_succ, Option.map_some, Option.bind_some]
    rw [ho]
    exact ⟨rfl, Grew.refl _⟩
  · have hw : IntKind.i64.wrap ((s.size : Int) - 4) = ((s.size - 4 : Nat) : Int) := by rw [wrap64_of (by omega) (by omega)]; omega
    have hd : decide (((s.size - 4 : Nat) : Int) < 0) = false := by rw [decide_eq_false_iff_not]; omega
    have hl : s.size - 4 ≤ s.size := by omega
    first | with_reducible refine tw_reg_seq fun K hK => ?_ | (refine tw_seq_assoc ?_; with_reducible refine tw_reg_seq fun K hK => ?_)
    simp only [List.toList_toArray, List.append_eq, List.cons_append, List.nil_append]
    repeat (first | (first | with_reducible refine twL_go fun Cw cw => ?_ | with_reducible refine twL_yes rfl fun Cw cw => ?_); simp only [go_sem]; (first | refine cw _ _ ?_ | refine Or.inl (cw _ _ ?_)); clear cw Cw; simp only [tput, List.set_cons_zero, List.set_cons_succ] | (with_reducible refine twL_no _ rfl rfl ?_); simp only [tput, List.set_cons_zero, List.set_cons_succ])
    refine twL_nil.2 (hK _ _ ?_); clear hK K
    first | with_reducible refine tw_reg_seq fun K hK => ?_ | (refine tw_seq_assoc ?_; with_reducible refine tw_reg_seq fun K hK => ?_)
    simp only [List.toList_toArray, List.append_eq, List.cons_append, List.nil_append]
    repeat (first | (first | with_reducible refine twL_go fun Cw cw => ?_ | with_reducible refine twL_yes rfl fun Cw cw => ?_); simp only [go_sem, hw]; (first | refine cw _ _ ?_ | refine Or.inl (cw _ _ ?_)); clear cw Cw; simp only [tput, List.set_cons_zero, List.set_cons_succ] | (with_reducible refine twL_no _ rfl rfl ?_); simp only [tput, List.set_cons_zero, List.set_cons_succ])
    refine twL_nil.2 (hK _ _ ?_); clear hK K
    first | with_reducible refine tw_reg_seq fun K hK => ?_ | (refine tw_seq_assoc ?_; with_reducible refine tw_reg_seq fun K hK => ?_)
    simp only [List.toList_toArray, List.append_eq, List.cons_append, List.nil_append]
    repeat (first | (first | with_reducible refine twL_go fun Cw cw => ?_ | with_reducible refine twL_yes rfl fun Cw cw => ?_); simp only [go_sem, hd]; (first | refine cw _ _ ?_ | refine Or.inl (cw _ _ ?_)); clear cw Cw; simp only [tput, List.set_cons_zero, List.set_cons_succ] | (with_reducible refine twL_no _ rfl rfl ?_); simp only [tput, List.set_cons_zero, List.set_cons_succ])
    refine twL_nil.2 (hK _ _ ?_); clear hK K
    refine tw_cond_seq rfl (fun h => by cases h) (fun _ => ?_)
    refine tw_skip_seq ?_
    first | with_reducible refine tw_reg_seq fun K hK => ?_ | (refine tw_seq_assoc ?_; with_reducible refine tw_reg_seq fun K hK => ?_)
    simp only [List.toList_toArray, List.append_eq, List.cons_append, List.nil_append]
    repeat (first | (first | with_reducible refine twL_go fun Cw cw => ?_ | with_reducible refine twL_yes rfl fun Cw cw => ?_); simp only [go_sem, hl]; (first | refine cw _ _ ?_ | refine Or.inl (cw _ _ ?_)); clear cw Cw; simp only [tput, List.set_cons_zero, List.set_cons_succ] | (with_reducible refine twL_no _ rfl rfl ?_); simp only [tput, List.set_cons_zero, List.set_cons_succ])
    first | with_reducible refine twL_go fun Cw cw => ?_ | with_reducible refine twL_yes rfl fun Cw cw => ?_
    simp only [go_sem, hl]
    refine (seal_walk _ _ (by rw [size_extract _ _ hl]; omega)).mono ?_
    rintro _ _ ⟨rfl, hg⟩
    refine cw _ _ ?_; clear cw Cw; simp only [tput, List.set_cons_zero, List.set_cons_succ]
    repeat (first | (first | with_reducible refine twL_go fun Cw cw => ?_ | with_reducible refine twL_yes rfl fun Cw cw => ?_); simp only [go_sem]; (first | refine cw _ _ ?_ | refine Or.inl (cw _ _ ?_)); clear cw Cw; simp only [tput, List.set_cons_zero, List.set_cons_succ] | (with_reducible refine twL_no _ rfl rfl ?_); simp only [tput, List.set_cons_zero, List.set_cons_succ])
    refine twL_nil.2 (hK _ _ ?_); clear hK K
    refine tw_cond_seq rfl (fun h => ?_) (fun h => ?_)
    · have ho : openB s = (⟨#[]⟩, 12) := by unfold openB; rw [if_neg h4, if_neg (by simpa using h)]
      first | with_reducible refine tw_reg_seq fun K hK => ?_ | (refine tw_seq_assoc ?_; with_reducible refine tw_reg_seq fun K hK => ?_)
      simp only [List.toList_toArray, List.append_eq, List.cons_append, List.nil_append]
      repeat (first | (first | with_reducible refine twL_go fun Cw cw => ?_ | with_reducible refine twL_yes rfl fun Cw cw => ?_); simp only [go_sem]; (first | refine cw _ _ ?_ | refine Or.inl (cw _ _ ?_)); clear cw Cw; simp only [tput, List.set_cons_zero, List.set_cons_succ] | (with_reducible refine twL_no _ rfl rfl ?_); simp only [tput, List.set_cons_zero, List.set_cons_succ])
      refine twL_nil.2 (hK _ _ ?_); clear hK K
      refine tw_ret_seq ?_
      simp only [tw, TX.inBlock, TX.then, tpost, tresults, Tryz.f143, List.toList_toArray, tresultL, tresult1, ev, List.getElem?_cons_zero, List.getElem?_cons_succ, Option.map_some, Option.bind_some]
      rw [ho]
      exact ⟨rfl, hg⟩
    · have ho : openB s = (s.extract 0 (s.size - 4), 0) := by unfold openB; rw [if_neg h4, if_pos (by simpa using h)]
      refine tw_skip_seq ?_
      first | with_reducible refine tw_reg_seq fun K hK => ?_ | (refine tw_seq_assoc ?_; with_reducible refine tw_reg_seq fun K hK => ?_)
      simp only [List.toList_toArray, List.append_eq, List.cons_append, List.nil_append]
      repeat (first | (first | with_reducible refine twL_go fun Cw cw => ?_ | with_reducible refine twL_yes rfl fun Cw cw => ?_); simp only [go_sem, hl]; (first | refine cw _ _ ?_ | refine Or.inl (cw _ _ ?_)); clear cw Cw; simp only [tput, List.set_cons_zero, List.set_cons_succ] | (with_reducible refine twL_no _ rfl rfl ?_); simp only [tput, List.set_cons_zero, List.set_cons_succ])
      refine twL_nil.2 (hK _ _ ?_); clear hK K
      simp only [tw, TX.inBlock, TX.then, tpost, tresults, Tryz.f143, List.toList_toArray, tresultL, tresult1, ev, List.getElem?_cons_zero, List.getElem?_cons_succ, Option.map_some, Option.bind_some]
      rw [ho]
      exact ⟨rfl, hg⟩

end Go.Proofs.YtbhhmnfjjnnkiaaGreat
