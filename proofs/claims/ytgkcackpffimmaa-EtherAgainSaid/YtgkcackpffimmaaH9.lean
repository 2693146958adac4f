/- The laws of Ether that ask for bounded bytes. -/
import Derived.Test.YtgkcackpffimmaaH8
import Derived.Test.YtgkcackpffimmaaD0
set_option linter.unusedVariables false
set_option linter.unusedSimpArgs false
set_option maxRecDepth 10000
set_option maxHeartbeats 4000000
namespace Go.Proofs.Ytgkcackpffimmaa
open Go.TM

theorem list_len5 {α : Type} {cs : List α} (h : cs.length = 5) : ∃ a0 a1 a2 a3 a4, cs = [a0, a1, a2, a3, a4] := by
  match cs, h with
  | [a0, a1, a2, a3, a4], _ => exact ⟨a0, a1, a2, a3, a4, rfl⟩

theorem TyStr {d : Nat} {cs : List TV} (h : Ty (mkTab Try.prog) (d + 1) 9 cs) : ∃ l : List UInt8, cs = [.str (B l)] ∧ l.length ≤ 9223372036854775807 := by
  simp only [Ty, tab9] at h
  obtain ⟨s, hs, hz⟩ := h
  exact ⟨s.data.toList, by rw [hs]; try rfl, by rw [← B_size, ← B_of]; exact hz⟩

theorem TyFrm {d : Nat} {a : TV} (h : TyV (mkTab Try.prog) (d + 2) 48 a) : ∃ f : Frm, a = .agg (frC f) ∧ I64 f.seq ∧ f.data.length ≤ 9223372036854775807 := by
  have ha := h.2 _ tab48
  have h := Ty_struct tab48 rfl h.1
  simp only [List.mem_cons, List.not_mem_nil, or_false, forall_eq_or_imp, forall_eq, tab3, tab9] at h
  obtain ⟨h, h0, h1, h2, h3, h4⟩ := h
  obtain ⟨a0, a1, a2, a3, a4, e⟩ := list_len5 h
  rw [e] at h0 h1 h2 h3 h4
  simp only [List.drop_zero, List.drop_succ_cons, List.take_succ_cons, List.take_zero] at h0 h1 h2 h3 h4
  obtain ⟨x0, e0, q0⟩ := TyInt h0; cases e0
  obtain ⟨x1, e1, q1⟩ := TyInt h1; cases e1
  obtain ⟨x2, e2, q2⟩ := TyInt h2; cases e2
  obtain ⟨x3, e3, q3⟩ := TyInt h3; cases e3
  obtain ⟨x4, e4, q4⟩ := TyStr h4; cases e4
  refine ⟨⟨x0, x1, x2, x3, x4⟩, ?_, q3, q4⟩
  cases a <;> first | (cases ha; done) | (simp only [TV.cells] at e; rw [e])

theorem frm_eq (cst : Bool) (a b c d : Int) (l : List UInt8) : tbin (mkTab Try.prog) cst .eql 48 (.agg [.int .i64 a, .int .i64 b, .int .i64 c, .int .i64 d, .str (B l)]) (.agg [.int .i64 a, .int .i64 b, .int .i64 c, .int .i64 d, .str (B l)]) = some (.bool true) := by
  have hr : List.range 6 = [0, 1, 2, 3, 4, 5] := rfl
  simp only [tbin, TV.isInt, TV.isStr, Bool.and_self, Bool.or_self, Bool.false_eq_true, if_false, teqIn, tab48, tab3, tab9, if_true, tall, tpart, Nat.mul_one, List.length_cons, List.length_nil, teq1, TK.isAgg, List.getElem?_cons_zero, List.getElem?_cons_succ]
  have hb : (B l == B l) = true := by
    first | exact beq_self_eq_true _ | (show ((B l).data == (B l).data) = true; exact beq_self_eq_true _) | (show decide (B l = B l) = true; exact decide_eq_true rfl)
  simp [hb]

theorem encL_len {f : Frm} (h : (encL f).2 = 0) : (encL f).1.length = 19 + min (max f.data.length 45) 1499 := by
  unfold encL at h ⊢
  split at h
  · cases h
  · rename_i h1
    split at h
    · cases h
    · rename_i h2
      rw [if_neg h1, if_neg h2, sealL_len, bodyL, List.length_append, List.length_append, List.length_append, be_len, List.length_replicate]
      have : (headL f).length = 14 := by simp [headL, be_len]
      omega

theorem awake04_walk (σ : TS) : TPure Try.prog 34 [] σ (.bool true) := by
  have h1 : ∀ τ, TPure Try.prog 35 [.agg [.int .i64 1, .int .i64 2, .int .i64 0, .int .i64 3, .str (B [])]] τ (.tup [.str (B (encL ⟨1, 2, 0, 3, []⟩).1), .int .i64 0]) := fun τ => encode_walk ⟨1, 2, 0, 3, []⟩ τ (by simp) (by simp)
  have hl : (encL ⟨1, 2, 0, 3, []⟩).1.length = 64 := encL_len (f := ⟨1, 2, 0, 3, []⟩) rfl
  generalize (encL ⟨1, 2, 0, 3, []⟩).1 = e at h1 hl
  have h2 : ∀ τ, TPure Try.prog 39 [.str (B [115, 104, 111, 114, 116])] τ (.tup [.agg [.int .i64 0, .int .i64 0, .int .i64 0, .int .i64 0, .str (B [])], .int .i64 10]) := fun τ => decode_walk [115, 104, 111, 114, 116] τ (by simp)
  have h3 : ∀ τ, TPure Try.prog 37 [.int .i64 45] τ (.int .i64 64) := size_walk 45
  have h4 : ∀ τ, TPure Try.prog 37 [.int .i64 46] τ (.int .i64 65) := size_walk 46
  refine pure_of [] [.tmp 0] Try.func34 (by kernel_rfl) rfl (by kernel_rfl) fun X hR hN => ?_
  show Tw _ _ _ _ ([] ++ List.replicate 33 none) _
  simp only [List.replicate, List.cons_append, List.nil_append]
  repeat' (first
    | ((with_reducible refine WL_do fun Cw cw => ?_); (first | ((with_reducible first | apply O_move | apply O_assign | apply O_pickV | apply O_extract); (repeat rfl); (with_reducible apply cw); (focus ((try simp only [tput, List.set_cons_zero, List.set_cons_succ]); exact rfl))) | ((with_reducible first | apply O_bin | apply O_len | apply O_store | apply O_alloc | apply O_build); (repeat rfl); simp (disch := omega) only [go_sem, mkB, hl]; (with_reducible apply cw); (focus ((try simp only [tput, List.set_cons_zero, List.set_cons_succ]); exact rfl))) | ((with_reducible first | apply O_callF | apply O_call); (repeat rfl); (try simp only [List.nil_append, List.append_nil, List.cons_append]); (refine TPure.go (by (first | apply h1 | apply h2 | apply h3 | apply h4) <;> first | assumption | omega | exact Eq.trans (get_old (by assumption)) (by assumption)) ?_); (with_reducible apply cw); (focus ((try simp only [tput, List.set_cons_zero, List.set_cons_succ]); exact rfl)))); clear cw Cw)
    | ((with_reducible apply WL_if); (focus rfl); (focus ((try simp only [tput, List.set_cons_zero, List.set_cons_succ]); exact rfl)))
    | ((with_reducible apply WL_un); (focus rfl); (focus ((try simp only [tput, List.set_cons_zero, List.set_cons_succ]); exact rfl)))
    | ((with_reducible refine WL_nil (hK _ _ ?_)); clear hK K)
    | ((with_reducible first | refine T_reg_seq fun K hK => ?_ | refine T_reg_end fun K hK => ?_); simp only [List.toList_toArray, List.append_eq, List.cons_append, List.nil_append])
    | ((with_reducible first | apply T_cond_seq | apply T_cond); (focus rfl))
    | (intro hg; (first | (simp only [Bool.not_true, Bool.not_false, Bool.true_eq_false, Bool.false_eq_true] at hg; done) | ((try simp only [Bool.not_true, Bool.not_false, eq_self] at hg); (have hh : True := hg); clear hh hg) | ((try simp only [Bool.not_true, Bool.not_false] at hg); (try (have hh := hg; simp only [hh]; clear hh)); (try simp only [decide_eq_true_eq, decide_eq_false_iff_not, Bool.not_true, Bool.not_false, Bool.not_eq_true', Bool.not_eq_false', Bool.and_eq_true, Bool.or_eq_true, beq_iff_eq, bne_iff_ne, beq_eq_false_iff_ne, bne_eq_false_iff_eq, ne_eq, Decidable.not_not, Bool.or_eq_false_iff, Bool.and_eq_false_iff, gt_iff_lt, ge_iff_le, Int.not_lt, Int.not_le, Nat.not_lt, Nat.not_le] at hg); (try (exfalso; omega)))))
    | with_reducible first | refine T_seq_assoc ?_ | refine T_skip_seq ?_ | refine T_ret_seq ?_ | refine T_exit_seq ?_ | refine T_ret ?_ | refine T_skip ?_ | refine T_exit ?_ | refine T_block_seq fun Kb hKb => ?_ | refine T_block ?_
    | (simp only [TX.inBlock, TX.then, if_true, if_false, Nat.reduceEqDiff, ite_true, ite_false])
    | ((with_reducible first | refine hR _ _ (fun C cc => ?_) | refine hN _ _ (fun C cc => ?_)); simp (disch := omega) only [go_sem, mkB, hl]; (with_reducible apply cc); clear cc C; (first | refine Ends.more rfl ?_ | refine Ends.same rfl ?_ | refine Ends.more (by simp only [go_sem, Bool.and_self]) ?_ | refine Ends.same (by simp only [go_sem, Bool.and_self]) ?_); (try simp only [go_sem, Bool.and_self]))
    | (with_reducible apply_assumption -exfalso -symm only [*]))
  all_goals trace_state

theorem encodes_walk (f : Frm) (n : Int) (hn : I64 n) (hs : I64 f.seq) (hf : f.data.length ≤ 9223372036854775807) : TPure Try.prog 8 [.agg (frC f), .int .i64 n] [] (.bool true) := by
  have haw := awake04_walk
  by_cases h : f.data.length > 3000
  · refine pure_of [] [.tmp 4] Try.func8 (by kernel_rfl) rfl (by kernel_rfl) fun X hR hN => ?_
    show Tw _ _ _ _ ([some _, some _] ++ List.replicate 40 none) _
    simp only [List.replicate, List.cons_append, List.nil_append]
    repeat' (first
      | ((with_reducible refine WL_do fun Cw cw => ?_); (first | ((with_reducible first | apply O_move | apply O_assign | apply O_pickV | apply O_extract); (repeat rfl); (with_reducible apply cw); (focus ((try simp only [tput, List.set_cons_zero, List.set_cons_succ]); exact rfl))) | ((with_reducible first | apply O_load | apply O_fieldAddr | apply O_bin | apply O_len | apply O_box); (repeat rfl); simp (disch := omega) only [go_sem]; (with_reducible apply cw); (focus ((try simp only [tput, List.set_cons_zero, List.set_cons_succ]); exact rfl))) | ((with_reducible first | apply O_callF | apply O_call); (repeat rfl); (try simp only [List.nil_append, List.append_nil, List.cons_append]); (refine TPure.go (by (apply haw) <;> first | assumption | omega | exact Eq.trans (get_old (by assumption)) (by assumption)) ?_); (with_reducible apply cw); (focus ((try simp only [tput, List.set_cons_zero, List.set_cons_succ]); exact rfl)))); clear cw Cw)
      | ((with_reducible apply WL_if); (focus rfl); (focus ((try simp only [tput, List.set_cons_zero, List.set_cons_succ]); exact rfl)))
      | ((with_reducible apply WL_un); (focus rfl); (focus ((try simp only [tput, List.set_cons_zero, List.set_cons_succ]); exact rfl)))
      | ((with_reducible refine WL_nil (hK _ _ ?_)); clear hK K)
      | ((with_reducible first | refine T_reg_seq fun K hK => ?_ | refine T_reg_end fun K hK => ?_); simp only [List.toList_toArray, List.append_eq, List.cons_append, List.nil_append])
      | ((with_reducible first | apply T_cond_seq | apply T_cond); (focus rfl))
      | (intro hg; (first | (simp only [Bool.not_true, Bool.not_false, Bool.true_eq_false, Bool.false_eq_true] at hg; done) | ((try simp only [Bool.not_true, Bool.not_false, eq_self] at hg); (have hh : True := hg); clear hh hg) | ((try simp only [Bool.not_true, Bool.not_false] at hg); (try (have hh := hg; simp only [hh]; clear hh)); (try simp only [decide_eq_true_eq, decide_eq_false_iff_not, Bool.not_true, Bool.not_false, Bool.not_eq_true', Bool.not_eq_false', Bool.and_eq_true, Bool.or_eq_true, beq_iff_eq, bne_iff_ne, beq_eq_false_iff_ne, bne_eq_false_iff_eq, ne_eq, Decidable.not_not, Bool.or_eq_false_iff, Bool.and_eq_false_iff, gt_iff_lt, ge_iff_le, Int.not_lt, Int.not_le, Nat.not_lt, Nat.not_le] at hg); (try (exfalso; omega)))))
      | with_reducible first | refine T_seq_assoc ?_ | refine T_skip_seq ?_ | refine T_ret_seq ?_ | refine T_exit_seq ?_ | refine T_ret ?_ | refine T_skip ?_ | refine T_exit ?_ | refine T_block_seq fun Kb hKb => ?_ | refine T_block ?_
      | (simp only [TX.inBlock, TX.then, if_true, if_false, Nat.reduceEqDiff, ite_true, ite_false])
      | ((with_reducible first | refine hR _ _ (fun C cc => ?_) | refine hN _ _ (fun C cc => ?_)); simp (disch := omega) only [go_sem]; (with_reducible apply cc); clear cc C; (first | refine Ends.more rfl ?_ | refine Ends.same rfl ?_ | refine Ends.more (by simp only [go_sem, Bool.and_self]) ?_ | refine Ends.same (by simp only [go_sem, Bool.and_self]) ?_); (try simp only [go_sem, Bool.and_self]))
      | (with_reducible apply_assumption -exfalso -symm only [*]))
    all_goals trace_state
  · have h1 := fun τ => encode_walk f τ (by omega) hs
    have h2 := refencode_walk f
    have h3 := size_walk n
    have h4 := fun τ => refsize_walk n τ hn.1
    generalize encL f = e at h1 h2
    refine pure_of [] [.tmp 4] Try.func8 (by kernel_rfl) rfl (by kernel_rfl) fun X hR hN => ?_
    show Tw _ _ _ _ ([some _, some _] ++ List.replicate 40 none) _
    simp only [List.replicate, List.cons_append, List.nil_append]
    repeat' (first
      | ((with_reducible refine WL_do fun Cw cw => ?_); (first | ((with_reducible first | apply O_move | apply O_assign | apply O_pickV | apply O_extract); (repeat rfl); (with_reducible apply cw); (focus ((try simp only [tput, List.set_cons_zero, List.set_cons_succ]); exact rfl))) | ((with_reducible first | apply O_load | apply O_fieldAddr | apply O_bin | apply O_len | apply O_box); (repeat rfl); simp (disch := omega) only [go_sem]; (with_reducible apply cw); (focus ((try simp only [tput, List.set_cons_zero, List.set_cons_succ]); exact rfl))) | ((with_reducible first | apply O_callF | apply O_call); (repeat rfl); (try simp only [List.nil_append, List.append_nil, List.cons_append]); (refine TPure.go (by (first | apply haw | apply h1 | apply h2 | apply h3 | apply h4) <;> first | assumption | omega | exact Eq.trans (get_old (by assumption)) (by assumption)) ?_); (with_reducible apply cw); (focus ((try simp only [tput, List.set_cons_zero, List.set_cons_succ]); exact rfl)))); clear cw Cw)
      | ((with_reducible apply WL_if); (focus rfl); (focus ((try simp only [tput, List.set_cons_zero, List.set_cons_succ]); exact rfl)))
      | ((with_reducible apply WL_un); (focus rfl); (focus ((try simp only [tput, List.set_cons_zero, List.set_cons_succ]); exact rfl)))
      | ((with_reducible refine WL_nil (hK _ _ ?_)); clear hK K)
      | ((with_reducible first | refine T_reg_seq fun K hK => ?_ | refine T_reg_end fun K hK => ?_); simp only [List.toList_toArray, List.append_eq, List.cons_append, List.nil_append])
      | ((with_reducible first | apply T_cond_seq | apply T_cond); (focus rfl))
      | (intro hg; (first | (simp only [Bool.not_true, Bool.not_false, Bool.true_eq_false, Bool.false_eq_true] at hg; done) | ((try simp only [Bool.not_true, Bool.not_false, eq_self] at hg); (have hh : True := hg); clear hh hg) | ((try simp only [Bool.not_true, Bool.not_false] at hg); (try (have hh := hg; simp only [hh]; clear hh)); (try simp only [decide_eq_true_eq, decide_eq_false_iff_not, Bool.not_true, Bool.not_false, Bool.not_eq_true', Bool.not_eq_false', Bool.and_eq_true, Bool.or_eq_true, beq_iff_eq, bne_iff_ne, beq_eq_false_iff_ne, bne_eq_false_iff_eq, ne_eq, Decidable.not_not, Bool.or_eq_false_iff, Bool.and_eq_false_iff, gt_iff_lt, ge_iff_le, Int.not_lt, Int.not_le, Nat.not_lt, Nat.not_le] at hg); (try (exfalso; omega)))))
      | with_reducible first | refine T_seq_assoc ?_ | refine T_skip_seq ?_ | refine T_ret_seq ?_ | refine T_exit_seq ?_ | refine T_ret ?_ | refine T_skip ?_ | refine T_exit ?_ | refine T_block_seq fun Kb hKb => ?_ | refine T_block ?_
      | (simp only [TX.inBlock, TX.then, if_true, if_false, Nat.reduceEqDiff, ite_true, ite_false])
      | ((with_reducible first | refine hR _ _ (fun C cc => ?_) | refine hN _ _ (fun C cc => ?_)); simp (disch := omega) only [go_sem]; (with_reducible apply cc); clear cc C; (first | refine Ends.more rfl ?_ | refine Ends.same rfl ?_ | refine Ends.more (by simp only [go_sem, Bool.and_self]) ?_ | refine Ends.same (by simp only [go_sem, Bool.and_self]) ?_); (try simp only [go_sem, Bool.and_self]))
      | (with_reducible apply_assumption -exfalso -symm only [*]))
    all_goals trace_state

theorem decodes_walk (s : List UInt8) (hs : s.length ≤ 9223372036854775807) : TPure Try.prog 12 [.str (B s)] [] (.bool true) := by
  have haw := awake04_walk
  by_cases h : s.length > 3000
  · refine pure_of [] [.tmp 2] Try.func12 (by kernel_rfl) rfl (by kernel_rfl) fun X hR hN => ?_
    show Tw _ _ _ _ ([some _] ++ List.replicate 55 none) _
    simp only [List.replicate, List.cons_append, List.nil_append]
    repeat' (first
      | ((with_reducible refine WL_do fun Cw cw => ?_); (first | ((with_reducible first | apply O_move | apply O_assign | apply O_pickV | apply O_extract); (repeat rfl); (with_reducible apply cw); (focus ((try simp only [tput, List.set_cons_zero, List.set_cons_succ]); exact rfl))) | ((with_reducible first | apply O_load | apply O_bin | apply O_len | apply O_store | apply O_alloc); (repeat rfl); simp (disch := omega) only [go_sem]; (with_reducible apply cw); (focus ((try simp only [tput, List.set_cons_zero, List.set_cons_succ]); exact rfl))) | ((with_reducible first | apply O_callF | apply O_call); (repeat rfl); (try simp only [List.nil_append, List.append_nil, List.cons_append]); (refine TPure.go (by (apply haw) <;> first | assumption | omega | exact Eq.trans (get_old (by assumption)) (by assumption)) ?_); (with_reducible apply cw); (focus ((try simp only [tput, List.set_cons_zero, List.set_cons_succ]); exact rfl)))); clear cw Cw)
      | ((with_reducible apply WL_if); (focus rfl); (focus ((try simp only [tput, List.set_cons_zero, List.set_cons_succ]); exact rfl)))
      | ((with_reducible apply WL_un); (focus rfl); (focus ((try simp only [tput, List.set_cons_zero, List.set_cons_succ]); exact rfl)))
      | ((with_reducible refine WL_nil (hK _ _ ?_)); clear hK K)
      | ((with_reducible first | refine T_reg_seq fun K hK => ?_ | refine T_reg_end fun K hK => ?_); simp only [List.toList_toArray, List.append_eq, List.cons_append, List.nil_append])
      | ((with_reducible first | apply T_cond_seq | apply T_cond); (focus rfl))
      | (intro hg; (first | (simp only [Bool.not_true, Bool.not_false, Bool.true_eq_false, Bool.false_eq_true] at hg; done) | ((try simp only [Bool.not_true, Bool.not_false, eq_self] at hg); (have hh : True := hg); clear hh hg) | ((try simp only [Bool.not_true, Bool.not_false] at hg); (try (have hh := hg; simp only [hh]; clear hh)); (try simp only [decide_eq_true_eq, decide_eq_false_iff_not, Bool.not_true, Bool.not_false, Bool.not_eq_true', Bool.not_eq_false', Bool.and_eq_true, Bool.or_eq_true, beq_iff_eq, bne_iff_ne, beq_eq_false_iff_ne, bne_eq_false_iff_eq, ne_eq, Decidable.not_not, Bool.or_eq_false_iff, Bool.and_eq_false_iff, gt_iff_lt, ge_iff_le, Int.not_lt, Int.not_le, Nat.not_lt, Nat.not_le] at hg); (try (exfalso; omega)))))
      | with_reducible first | refine T_seq_assoc ?_ | refine T_skip_seq ?_ | refine T_ret_seq ?_ | refine T_exit_seq ?_ | refine T_ret ?_ | refine T_skip ?_ | refine T_exit ?_ | refine T_block_seq fun Kb hKb => ?_ | refine T_block ?_
      | (simp only [TX.inBlock, TX.then, if_true, if_false, Nat.reduceEqDiff, ite_true, ite_false])
      | ((with_reducible first | refine hR _ _ (fun C cc => ?_) | refine hN _ _ (fun C cc => ?_)); simp (disch := omega) only [go_sem]; (with_reducible apply cc); clear cc C; (first | refine Ends.more rfl ?_ | refine Ends.same rfl ?_ | refine Ends.more (by simp only [go_sem, Bool.and_self]) ?_ | refine Ends.same (by simp only [go_sem, Bool.and_self]) ?_); (try simp only [go_sem, Bool.and_self]))
      | (with_reducible apply_assumption -exfalso -symm only [*]))
    all_goals trace_state
  · have h1 := fun τ => decode_walk s τ (by omega)
    have h2 := fun τ => refdecode_walk s τ (by omega)
    have h3 := fun τ => look_walk s τ (by omega)
    have h4 := fun τ => reflook_walk s τ (by omega)
    generalize decL s = e at h1 h2
    generalize lookL s = k at h3 h4
    refine pure_of [] [.tmp 2] Try.func12 (by kernel_rfl) rfl (by kernel_rfl) fun X hR hN => ?_
    show Tw _ _ _ _ ([some _] ++ List.replicate 55 none) _
    simp only [List.replicate, List.cons_append, List.nil_append]
    repeat' (first
      | ((with_reducible refine WL_do fun Cw cw => ?_); (first | ((with_reducible first | apply O_move | apply O_assign | apply O_pickV | apply O_extract); (repeat rfl); (with_reducible apply cw); (focus ((try simp only [tput, List.set_cons_zero, List.set_cons_succ]); exact rfl))) | ((with_reducible first | apply O_load | apply O_bin | apply O_len | apply O_store | apply O_alloc); (repeat rfl); simp (disch := omega) only [go_sem, ↓frm_eq]; (with_reducible apply cw); (focus ((try simp only [tput, List.set_cons_zero, List.set_cons_succ]); exact rfl))) | ((with_reducible first | apply O_callF | apply O_call); (repeat rfl); (try simp only [List.nil_append, List.append_nil, List.cons_append]); (refine TPure.go (by (first | apply haw | apply h1 | apply h2 | apply h3 | apply h4) <;> first | assumption | omega | exact Eq.trans (get_old (by assumption)) (by assumption)) ?_); (with_reducible apply cw); (focus ((try simp only [tput, List.set_cons_zero, List.set_cons_succ]); exact rfl)))); clear cw Cw)
      | ((with_reducible apply WL_if); (focus rfl); (focus ((try simp only [tput, List.set_cons_zero, List.set_cons_succ]); exact rfl)))
      | ((with_reducible apply WL_un); (focus rfl); (focus ((try simp only [tput, List.set_cons_zero, List.set_cons_succ]); exact rfl)))
      | ((with_reducible refine WL_nil (hK _ _ ?_)); clear hK K)
      | ((with_reducible first | refine T_reg_seq fun K hK => ?_ | refine T_reg_end fun K hK => ?_); simp only [List.toList_toArray, List.append_eq, List.cons_append, List.nil_append])
      | ((with_reducible first | apply T_cond_seq | apply T_cond); (focus rfl))
      | (intro hg; (first | (simp only [Bool.not_true, Bool.not_false, Bool.true_eq_false, Bool.false_eq_true] at hg; done) | ((try simp only [Bool.not_true, Bool.not_false, eq_self] at hg); (have hh : True := hg); clear hh hg) | ((try simp only [Bool.not_true, Bool.not_false] at hg); (try (have hh := hg; simp only [hh]; clear hh)); (try simp only [decide_eq_true_eq, decide_eq_false_iff_not, Bool.not_true, Bool.not_false, Bool.not_eq_true', Bool.not_eq_false', Bool.and_eq_true, Bool.or_eq_true, beq_iff_eq, bne_iff_ne, beq_eq_false_iff_ne, bne_eq_false_iff_eq, ne_eq, Decidable.not_not, Bool.or_eq_false_iff, Bool.and_eq_false_iff, gt_iff_lt, ge_iff_le, Int.not_lt, Int.not_le, Nat.not_lt, Nat.not_le] at hg); (try (exfalso; omega)))))
      | with_reducible first | refine T_seq_assoc ?_ | refine T_skip_seq ?_ | refine T_ret_seq ?_ | refine T_exit_seq ?_ | refine T_ret ?_ | refine T_skip ?_ | refine T_exit ?_ | refine T_block_seq fun Kb hKb => ?_ | refine T_block ?_
      | (simp only [TX.inBlock, TX.then, if_true, if_false, Nat.reduceEqDiff, ite_true, ite_false])
      | ((with_reducible first | refine hR _ _ (fun C cc => ?_) | refine hN _ _ (fun C cc => ?_)); simp (disch := omega) only [go_sem, ↓frm_eq]; (with_reducible apply cc); clear cc C; (first | refine Ends.more rfl ?_ | refine Ends.same rfl ?_ | refine Ends.more (by simp only [go_sem, Bool.and_self]) ?_ | refine Ends.same (by simp only [go_sem, Bool.and_self]) ?_); (try simp only [go_sem, Bool.and_self]))
      | (with_reducible apply_assumption -exfalso -symm only [*]))
    all_goals trace_state

theorem decL_err {s : List UInt8} (h : (decL s).2 ≠ 0) : (decL s).1 = ⟨0, 0, 0, 0, []⟩ := by
  unfold decL at h ⊢
  split
  · rfl
  · split
    · rfl
    · split
      · rfl
      · rename_i h1 h2 h3
        rw [if_neg h1, if_neg h2, if_neg h3] at h
        generalize (openL s).1 = t at h ⊢
        unfold frmE at h ⊢
        split
        · split
          · rfl
          · split
            · rfl
            · rename_i h4 h5
              simp only [if_neg h4, if_neg h5] at h
              exact absurd rfl h
        · rfl

theorem decL_ok {s : List UInt8} (h : (decL s).2 = 0) : encL (decL s).1 = (s, 0) := by
  unfold decL at h ⊢
  split at h
  · cases h
  · rename_i h1
    split at h
    · cases h
    · rename_i h2
      split at h
      · rename_i h3; exact absurd h h3
      · rename_i h3
        rw [if_neg h1, if_neg h2, if_neg h3]
        have h3 : (openL s).2 = 0 := by simpa using h3
        obtain ⟨q1, q2, q3⟩ := openL_ok h3
        have hlen : (openL s).1.length = s.length - 4 := by rw [q2, List.length_take]; omega
        rw [← q2] at q3
        generalize (openL s).1 = t at hlen h q3 ⊢
        obtain ⟨a0, a1, a2, a3, a4, a5, b0, b1, b2, b3, b4, b5, k0, k1, data, q, rfl⟩ := split15 (by omega : 15 ≤ t.length)
        have hdl : data.length = s.length - 19 := by simp at hlen; omega
        have hlast : (data ++ [q]).getLast?.getD 0 = q := by simp
        have hdrop : (data ++ [q]).dropLast = data := by simp
        rw [frmE, hlast, hdrop, endsE] at h ⊢
        by_cases p1 : IsVL a0.toNat a1.toNat a2.toNat a3.toNat a4.toNat a5.toNat
        · by_cases p2 : IsEnd b0.toNat b1.toNat b2.toNat b3.toNat b4.toNat b5.toNat
          · rw [if_pos p1, if_pos p2] at h ⊢
            rw [if_neg (by simp)] at h ⊢
            split at h
            · cases h
            · rename_i p3
              rw [if_neg p3]
              have p3 : un [k0, k1] = 2048 := by simpa using p3
              have hk : [k0, k1] = [8, 0] := by
                have := be_un [k0, k1]
                rw [p3] at this
                exact this.symm
              obtain ⟨rfl, rfl⟩ : k0 = 8 ∧ k1 = 0 := by simpa using hk
              have z4 := a4.toNat_lt
              have z5 := a5.toNat_lt
              have y3 := b3.toNat_lt
              have y4 := b4.toNat_lt
              have y5 := q.toNat_lt
              obtain ⟨e0, e1, e2, e3, e4⟩ := p1
              obtain ⟨g0, g1, g2, g3, g5⟩ := p2
              obtain rfl : a0 = 3 := UInt8.toNat_inj.1 (show a0.toNat = 3 by omega)
              obtain rfl : a1 = 0 := UInt8.toNat_inj.1 (show a1.toNat = 0 by omega)
              obtain rfl : a2 = 0 := UInt8.toNat_inj.1 (show a2.toNat = 0 by omega)
              obtain rfl : a3 = 0 := UInt8.toNat_inj.1 (show a3.toNat = 0 by omega)
              obtain rfl : b0 = 2 := UInt8.toNat_inj.1 (show b0.toNat = 2 by omega)
              obtain rfl : b1 = 0 := UInt8.toNat_inj.1 (show b1.toNat = 0 by omega)
              obtain rfl : b2 = 0 := UInt8.toNat_inj.1 (show b2.toNat = 0 by omega)
              have h5 : b8 (32 * ((b5.toNat : Int) / 32 - 1 + 1)) = b5 := by
                rw [show 32 * ((b5.toNat : Int) / 32 - 1 + 1) = (b5.toNat : Int) by omega, b8_of]
              have hok : ArgsOk ⟨256 * a4.toNat + a5.toNat, 256 * b3.toNat + b4.toNat, b5.toNat / 32 - 1, q.toNat, data⟩ := ⟨⟨by simpa using e4, by simp; omega⟩, ⟨by simp; omega, by simp; omega, by simp; omega⟩, by simp, by simp; omega⟩
              rw [encL, if_neg (fun e => e hok), if_neg (by simp; omega), bodyL, headL]
              simp only [be_two, h5, be1, b8_of]
              rw [show 45 - data.length = 0 by omega]
              simpa using q3
          · rw [if_pos p1, if_neg p2] at h
            cases h
        · rw [if_neg p1] at h
          cases h

theorem again_walk (s : List UInt8) (hs : s.length ≤ 9223372036854775807) : TPure Try.prog 9 [.str (B s)] [] (.bool true) := by
  have haw := awake04_walk
  by_cases h : s.length > 3000
  · refine pure_of [] [.tmp 2] Try.func9 (by kernel_rfl) rfl (by kernel_rfl) fun X hR hN => ?_
    show Tw _ _ _ _ ([some _] ++ List.replicate 38 none) _
    simp only [List.replicate, List.cons_append, List.nil_append]
    repeat' (first
      | ((with_reducible refine WL_do fun Cw cw => ?_); (first | ((with_reducible first | apply O_move | apply O_assign | apply O_pickV | apply O_extract); (repeat rfl); (with_reducible apply cw); (focus ((try simp only [tput, List.set_cons_zero, List.set_cons_succ]); exact rfl))) | ((with_reducible first | apply O_load | apply O_bin | apply O_len | apply O_store | apply O_alloc | apply O_build); (repeat rfl); simp (disch := omega) only [go_sem]; (with_reducible apply cw); (focus ((try simp only [tput, List.set_cons_zero, List.set_cons_succ]); exact rfl))) | ((with_reducible first | apply O_callF | apply O_call); (repeat rfl); (try simp only [List.nil_append, List.append_nil, List.cons_append]); (refine TPure.go (by (apply haw) <;> first | assumption | omega | exact Eq.trans (get_old (by assumption)) (by assumption)) ?_); (with_reducible apply cw); (focus ((try simp only [tput, List.set_cons_zero, List.set_cons_succ]); exact rfl)))); clear cw Cw)
      | ((with_reducible apply WL_if); (focus rfl); (focus ((try simp only [tput, List.set_cons_zero, List.set_cons_succ]); exact rfl)))
      | ((with_reducible apply WL_un); (focus rfl); (focus ((try simp only [tput, List.set_cons_zero, List.set_cons_succ]); exact rfl)))
      | ((with_reducible refine WL_nil (hK _ _ ?_)); clear hK K)
      | ((with_reducible first | refine T_reg_seq fun K hK => ?_ | refine T_reg_end fun K hK => ?_); simp only [List.toList_toArray, List.append_eq, List.cons_append, List.nil_append])
      | ((with_reducible first | apply T_cond_seq | apply T_cond); (focus rfl))
      | (intro hg; (first | (simp only [Bool.not_true, Bool.not_false, Bool.true_eq_false, Bool.false_eq_true] at hg; done) | ((try simp only [Bool.not_true, Bool.not_false, eq_self] at hg); (have hh : True := hg); clear hh hg) | ((try simp only [Bool.not_true, Bool.not_false] at hg); (try (have hh := hg; simp only [hh]; clear hh)); (try simp only [decide_eq_true_eq, decide_eq_false_iff_not, Bool.not_true, Bool.not_false, Bool.not_eq_true', Bool.not_eq_false', Bool.and_eq_true, Bool.or_eq_true, beq_iff_eq, bne_iff_ne, beq_eq_false_iff_ne, bne_eq_false_iff_eq, ne_eq, Decidable.not_not, Bool.or_eq_false_iff, Bool.and_eq_false_iff, gt_iff_lt, ge_iff_le, Int.not_lt, Int.not_le, Nat.not_lt, Nat.not_le] at hg); (try (exfalso; omega)))))
      | with_reducible first | refine T_seq_assoc ?_ | refine T_skip_seq ?_ | refine T_ret_seq ?_ | refine T_exit_seq ?_ | refine T_ret ?_ | refine T_skip ?_ | refine T_exit ?_ | refine T_block_seq fun Kb hKb => ?_ | refine T_block ?_
      | (simp only [TX.inBlock, TX.then, if_true, if_false, Nat.reduceEqDiff, ite_true, ite_false])
      | ((with_reducible first | refine hR _ _ (fun C cc => ?_) | refine hN _ _ (fun C cc => ?_)); simp (disch := omega) only [go_sem]; (with_reducible apply cc); clear cc C; (first | refine Ends.more rfl ?_ | refine Ends.same rfl ?_ | refine Ends.more (by simp only [go_sem, Bool.and_self]) ?_ | refine Ends.same (by simp only [go_sem, Bool.and_self]) ?_); (try simp only [go_sem, Bool.and_self]))
      | (with_reducible apply_assumption -exfalso -symm only [*]))
    all_goals trace_state
  · have h1 := fun τ => decode_walk s τ (by omega)
    by_cases he : (decL s).2 = 0
    · have hb := decL_ok he
      have hd : (decL s).1.data.length ≤ 3000 ∧ ArgsOk (decL s).1 := by
        constructor
        · have := encL_len (f := (decL s).1) (by rw [hb])
          by_cases q : (decL s).1.data.length > 1499
          · have q2 : ArgsOk (decL s).1 := Decidable.byContradiction fun q3 => by rw [encL, if_pos q3] at hb; cases hb
            rw [encL, if_neg (fun e => e q2), if_pos q] at hb
            cases hb
          · omega
        · exact Decidable.byContradiction fun q3 => by rw [encL, if_pos q3] at hb; cases hb
      have h2 := fun τ => encode_walk (decL s).1 τ (by omega) (by omega)
      rw [hb] at h2
      rw [he] at h1
      generalize (decL s).1 = f at h1 h2
      refine pure_of [] [.tmp 2] Try.func9 (by kernel_rfl) rfl (by kernel_rfl) fun X hR hN => ?_
      show Tw _ _ _ _ ([some _] ++ List.replicate 38 none) _
      simp only [List.replicate, List.cons_append, List.nil_append]
      repeat' (first
        | ((with_reducible refine WL_do fun Cw cw => ?_); (first | ((with_reducible first | apply O_move | apply O_assign | apply O_pickV | apply O_extract); (repeat rfl); (with_reducible apply cw); (focus ((try simp only [tput, List.set_cons_zero, List.set_cons_succ]); exact rfl))) | ((with_reducible first | apply O_load | apply O_bin | apply O_len | apply O_store | apply O_alloc | apply O_build); (repeat rfl); simp (disch := omega) only [go_sem]; (with_reducible apply cw); (focus ((try simp only [tput, List.set_cons_zero, List.set_cons_succ]); exact rfl))) | ((with_reducible first | apply O_callF | apply O_call); (repeat rfl); (try simp only [List.nil_append, List.append_nil, List.cons_append]); (refine TPure.go (by (first | apply haw | apply h1 | apply h2) <;> first | assumption | omega | exact Eq.trans (get_old (by assumption)) (by assumption)) ?_); (with_reducible apply cw); (focus ((try simp only [tput, List.set_cons_zero, List.set_cons_succ]); exact rfl)))); clear cw Cw)
        | ((with_reducible apply WL_if); (focus rfl); (focus ((try simp only [tput, List.set_cons_zero, List.set_cons_succ]); exact rfl)))
        | ((with_reducible apply WL_un); (focus rfl); (focus ((try simp only [tput, List.set_cons_zero, List.set_cons_succ]); exact rfl)))
        | ((with_reducible refine WL_nil (hK _ _ ?_)); clear hK K)
        | ((with_reducible first | refine T_reg_seq fun K hK => ?_ | refine T_reg_end fun K hK => ?_); simp only [List.toList_toArray, List.append_eq, List.cons_append, List.nil_append])
        | ((with_reducible first | apply T_cond_seq | apply T_cond); (focus rfl))
        | (intro hg; (first | (simp only [Bool.not_true, Bool.not_false, Bool.true_eq_false, Bool.false_eq_true] at hg; done) | ((try simp only [Bool.not_true, Bool.not_false, eq_self] at hg); (have hh : True := hg); clear hh hg) | ((try simp only [Bool.not_true, Bool.not_false] at hg); (try (have hh := hg; simp only [hh]; clear hh)); (try simp only [decide_eq_true_eq, decide_eq_false_iff_not, Bool.not_true, Bool.not_false, Bool.not_eq_true', Bool.not_eq_false', Bool.and_eq_true, Bool.or_eq_true, beq_iff_eq, bne_iff_ne, beq_eq_false_iff_ne, bne_eq_false_iff_eq, ne_eq, Decidable.not_not, Bool.or_eq_false_iff, Bool.and_eq_false_iff, gt_iff_lt, ge_iff_le, Int.not_lt, Int.not_le, Nat.not_lt, Nat.not_le] at hg); (try (exfalso; omega)))))
        | with_reducible first | refine T_seq_assoc ?_ | refine T_skip_seq ?_ | refine T_ret_seq ?_ | refine T_exit_seq ?_ | refine T_ret ?_ | refine T_skip ?_ | refine T_exit ?_ | refine T_block_seq fun Kb hKb => ?_ | refine T_block ?_
        | (simp only [TX.inBlock, TX.then, if_true, if_false, Nat.reduceEqDiff, ite_true, ite_false])
        | ((with_reducible first | refine hR _ _ (fun C cc => ?_) | refine hN _ _ (fun C cc => ?_)); simp (disch := omega) only [go_sem]; (with_reducible apply cc); clear cc C; (first | refine Ends.more rfl ?_ | refine Ends.same rfl ?_ | refine Ends.more (by simp only [go_sem, Bool.and_self]) ?_ | refine Ends.same (by simp only [go_sem, Bool.and_self]) ?_); (try simp only [go_sem, Bool.and_self]))
        | (with_reducible apply_assumption -exfalso -symm only [*]))
      all_goals trace_state
    · rw [decL_err he] at h1
      refine pure_of [] [.tmp 2] Try.func9 (by kernel_rfl) rfl (by kernel_rfl) fun X hR hN => ?_
      show Tw _ _ _ _ ([some _] ++ List.replicate 38 none) _
      simp only [List.replicate, List.cons_append, List.nil_append]
      repeat' (first
        | ((with_reducible refine WL_do fun Cw cw => ?_); (first | ((with_reducible first | apply O_move | apply O_assign | apply O_pickV | apply O_extract); (repeat rfl); (with_reducible apply cw); (focus ((try simp only [tput, List.set_cons_zero, List.set_cons_succ]); exact rfl))) | ((with_reducible first | apply O_load | apply O_bin | apply O_len | apply O_store | apply O_alloc | apply O_build); (repeat rfl); simp (disch := omega) only [go_sem, mkB, ↓frm_eq]; (with_reducible apply cw); (focus ((try simp only [tput, List.set_cons_zero, List.set_cons_succ]); exact rfl))) | ((with_reducible first | apply O_callF | apply O_call); (repeat rfl); (try simp only [List.nil_append, List.append_nil, List.cons_append]); (refine TPure.go (by (first | apply haw | apply h1) <;> first | assumption | omega | exact Eq.trans (get_old (by assumption)) (by assumption)) ?_); (with_reducible apply cw); (focus ((try simp only [tput, List.set_cons_zero, List.set_cons_succ]); exact rfl)))); clear cw Cw)
        | ((with_reducible apply WL_if); (focus rfl); (focus ((try simp only [tput, List.set_cons_zero, List.set_cons_succ]); exact rfl)))
        | ((with_reducible apply WL_un); (focus rfl); (focus ((try simp only [tput, List.set_cons_zero, List.set_cons_succ]); exact rfl)))
        | ((with_reducible refine WL_nil (hK _ _ ?_)); clear hK K)
        | ((with_reducible first | refine T_reg_seq fun K hK => ?_ | refine T_reg_end fun K hK => ?_); simp only [List.toList_toArray, List.append_eq, List.cons_append, List.nil_append])
        | ((with_reducible first | apply T_cond_seq | apply T_cond); (focus rfl))
        | (intro hg; (first | (simp only [Bool.not_true, Bool.not_false, Bool.true_eq_false, Bool.false_eq_true] at hg; done) | ((try simp only [Bool.not_true, Bool.not_false, eq_self] at hg); (have hh : True := hg); clear hh hg) | ((try simp only [Bool.not_true, Bool.not_false] at hg); (try (have hh := hg; simp only [hh]; clear hh)); (try simp only [decide_eq_true_eq, decide_eq_false_iff_not, Bool.not_true, Bool.not_false, Bool.not_eq_true', Bool.not_eq_false', Bool.and_eq_true, Bool.or_eq_true, beq_iff_eq, bne_iff_ne, beq_eq_false_iff_ne, bne_eq_false_iff_eq, ne_eq, Decidable.not_not, Bool.or_eq_false_iff, Bool.and_eq_false_iff, gt_iff_lt, ge_iff_le, Int.not_lt, Int.not_le, Nat.not_lt, Nat.not_le] at hg); (try (exfalso; omega)))))
        | with_reducible first | refine T_seq_assoc ?_ | refine T_skip_seq ?_ | refine T_ret_seq ?_ | refine T_exit_seq ?_ | refine T_ret ?_ | refine T_skip ?_ | refine T_exit ?_ | refine T_block_seq fun Kb hKb => ?_ | refine T_block ?_
        | (simp only [TX.inBlock, TX.then, if_true, if_false, Nat.reduceEqDiff, ite_true, ite_false])
        | ((with_reducible first | refine hR _ _ (fun C cc => ?_) | refine hN _ _ (fun C cc => ?_)); simp (disch := omega) only [go_sem, mkB, ↓frm_eq]; (with_reducible apply cc); clear cc C; (first | refine Ends.more rfl ?_ | refine Ends.same rfl ?_ | refine Ends.more (by simp only [go_sem, Bool.and_self]) ?_ | refine Ends.same (by simp only [go_sem, Bool.and_self]) ?_); (try simp only [go_sem, Bool.and_self]))
        | (with_reducible apply_assumption -exfalso -symm only [*]))
      all_goals trace_state
end Go.Proofs.Ytgkcackpffimmaa
